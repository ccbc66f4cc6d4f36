/- Texts put together: VJ, VK, VL, VP, VM1. -/
import Derived.Test.YtpeihcpclcibgaaGreatVX
import Derived.Test.YtpeihcpclcibgaaGreatTabOk
import Derived.Test.YtpeihcpclcibgaaGreatPX
/- Is it ideal. -/
namespace Go.Proofs.YtpeihcpclcibgaaGreat.Ai
open Go.Proofs.YtpeihcpclcibgaaGreat
noncomputable section
set_option linter.unusedVariables false
open Go.RowKit
structure HasV8 (tab : Nat → Option AFunc) : Prop where
  v45 : tab 26 = some af26
  v79 : tab 81 = some af81
  v115 : tab 131 = some af131

theorem hasV8 : HasV8 tabT.get := ⟨by kernel_rfl, by kernel_rfl, by kernel_rfl⟩

/-- two cells at once -/
def st2 (h : Heap) (p v : Value) : Option (Value × Heap) := match p with
  | .pointer (some ⟨b, o, none⟩) => (let vs := v.cells.toList
      bif Nat.beq vs.length 2 && Nat.ble 1 2 then (match h.wrs b o vs with
        | some h' => some (undef, h')
        | none => none) else none)
  | _ => none
theorem eop_store2 {ts : T Value} {h : Heap} {a x : Opd} : eop ts h (.store 2 a x) = st2 h (ev ts a) (ev ts x) := (rfl)
theorem st2_agg {h h' : Heap} {b o : Nat} {u v : Value} (w : h.wrs b o [u, v] = some h') : st2 h (.pointer (some ⟨b, o, none⟩)) (.agg #[u, v]) = some (undef, h') := by
  show (match h.wrs b o [u, v] with | some h' => some (undef, h') | none => none) = _
  rw [w]
theorem wrs2_of {h : Heap} {b n s : Nat} {x y u v : Value} {g : Bool} (hb : h.blks.get b = some ⟨[x, y], n, s, true, g⟩) (hu : scalar u = true) (hv : scalar v = true) : h.wrs b 0 [u, v] = some (h.setB b ⟨[u, v], n, s, true, g⟩) := by
  unfold Heap.wrs; rw [hb]
  have : 0 + 2 ≤ [x, y].length := Nat.le_refl _
  simp only [List.length_cons, List.length_nil, Nat.zero_add, leLen_le this, List.all_cons, hu, hv, List.all_nil, Bool.and_true, cond_true, spl_eq]
  rfl
theorem rds2_of {h : Heap} {b n s : Nat} {u v : Value} {o g : Bool} (hb : h.blks.get b = some ⟨[u, v], n, s, o, g⟩) : h.rds b 0 2 = some [u, v] := by
  unfold Heap.rds; rw [hb]; rfl
theorem pop_build {ts : T Value} {zero : List Value} {ps : List (Nat × Nat × Opd)} : pop ts (.build zero ps) = (match fillA zero (evP ts ps) with | some cs => some (.agg cs.toArray) | none => none) := (rfl)

mutual
def Tr.first : Tr → Int
  | .empty _ => 0
  | .leaf _ k _ => k
  | .inner _ _ _ _ _ _ cs => firsts cs
def firsts : List Tr → Int
  | [] => 0
  | t :: _ => t.first
end

mutual
def Tr.idl : Tr → Prop
  | .empty _ => True
  | .leaf _ _ _ => True
  | .inner _ sz sh ch sm ks cs => ((2 ≤ (contents cs).length ∧ (contents cs).length ≤ 120) ∧ cs.length = degN (contents cs).length ∧ sz = ((contents cs).length : Nat) ∧ sh = 0 ∧ ch = 0 ∧ sm = 0 ∧ (∀ i (h : i < cs.length), cs[i].content.length = sizeN (contents cs).length i) ∧ ∀ i (h : i < ks.length) (h2 : i + 1 < cs.length), ks[i] = cs[i + 1].first) ∧ idls cs
def idls : List Tr → Prop
  | [] => True
  | t :: cs => t.idl ∧ idls cs
end

theorem idls_mem : ∀ {cs : List Tr}, idls cs → ∀ i (h : i < cs.length), cs[i].idl
  | t :: cs, ⟨a, b⟩, 0, _ => a
  | t :: cs, ⟨a, b⟩, i + 1, h => idls_mem b i (by simpa using h)

/-- of a tree -/
def IdlP (P : Program) (bm : Nat) (um : Option Nat) (C : List Int) (z c o r : Int) (t : Tr) : Prop :=
  ∀ (h : Heap), MemAt h bm um C z c o r → t.ok C → t.idl → FSpec P 81 [.pointer (some ⟨bm, 0, none⟩), I t.word] h fun v h' => v = .tuple #[.agg #[I t.content.length, I t.first], .bool true] ∧ Same h h' (fun _ => False)

theorem cfOf_neA {f g : Nat} {args args2 : List Value} {h h2 k : Heap} {v : Value} {cf : CallF} (ne : args2 ≠ args) : cfOf f args h v k cf (.fn g) args2 h2 = cf (.fn g) args2 h2 := by
  unfold cfOf
  rw [if_neg (by rintro ⟨_, e, _⟩; exact ne e)]

theorem tailH {kR : Heap} {p5 p8 pA lim i : Nat} {tot tot' n f g : Int} {u8 : Option Nat} {L : List Value} (gR : kR.blks.get p5 = some ⟨[I tot, I f], 2, 2, true, false⟩) (zR : kR.blks.get pA = some ⟨[I n, I g], 2, 2, true, false⟩) (z8 : kR.blks.get p8 = some ⟨[ownSl u8 i], 1, 1, true, false⟩) (oR : OwnAt kR u8 1 i L) (h58 : p5 ≠ p8) (h5 : p5 < lim) (h8 : p8 < lim) (hA5 : pA ≠ p5) (hA8 : pA ≠ p8) (hA : pA < kR.next) (hl : lim ≤ kR.next) (hu : ∀ y, u8 = some y → lim ≤ y) (hi : i < 1000000) :
    ∃ kS kT u9 kU kV, kR.rd p5 0 = some (I tot) ∧ kR.rd pA 0 = some (I n) ∧ kR.wrs p5 0 [I tot'] = some kS ∧ kS.rd p8 0 = some (ownSl u8 i) ∧ kS.rd pA 0 = some (I n) ∧ kS.new ⟨[I n], 1, 1, true, false⟩ = kT ∧ appV kT 1 8 (ownSl u8 i) (.slice (some ⟨kS.next, 0, none⟩) 1 1) = some (ownSl u9 (i + 1), kU) ∧ kU.wrs p8 0 [ownSl u9 (i + 1)] = some kV ∧ kV.blks.get p5 = some ⟨[I tot', I f], 2, 2, true, false⟩ ∧ kV.blks.get p8 = some ⟨[ownSl u9 (i + 1)], 1, 1, true, false⟩ ∧ OwnAt kV u9 1 (i + 1) (L ++ [I n]) ∧ (∀ y, u9 = some y → lim ≤ y) ∧ Same kR kV (fun j => j = p5 ∨ j = p8 ∨ u8 = some j) := by
  have wS : kR.wrs p5 0 [I tot'] = some (kR.setB p5 ⟨[I tot', I f], 2, 2, true, false⟩) := wrs1_of gR rfl (by simp) rfl
  have sS : Same kR (kR.setB p5 ⟨[I tot', I f], 2, 2, true, false⟩) (fun j => j = p5) := Same.setB rfl
  have gS : (kR.setB p5 ⟨[I tot', I f], 2, 2, true, false⟩).blks.get p5 = some ⟨[I tot', I f], 2, 2, true, false⟩ := by rw [setB_get, if_pos rfl]
  generalize kR.setB p5 ⟨[I tot', I f], 2, 2, true, false⟩ = kS at wS sS gS
  have xS := sS.next
  have r8 : kS.blks.get p8 = some ⟨[ownSl u8 i], 1, 1, true, false⟩ := by rw [sS.get p8 (by omega) (fun e => h58 e.symm)]; exact z8
  have rA : kS.rd pA 0 = some (I n) := rd_of (by rw [sS.get pA (by omega) hA5]; exact zR)
  have oS := oR.same sS (fun y hy e => by have := hu y hy; omega)
  have hcell : RdAt (kS.new ⟨[I n], 1, 1, true, false⟩) kS.next 0 1 1 1 [I n] := RdAt.fresh kS [I n] 1 1 true false rfl
  have sT : Same kS (kS.new ⟨[I n], 1, 1, true, false⟩) (fun _ => False) := Same.new
  have xT : (kS.new ⟨[I n], 1, 1, true, false⟩).next = kS.next + 1 := rfl
  generalize hhT : kS.new ⟨[I n], 1, 1, true, false⟩ = kT at hcell sT xT
  obtain ⟨u9, kU, aU, oU, sU, nU⟩ := app_own (bytes := 8) (oS.same sT (fun _ _ x => x)) hcell.src rfl rfl (by omega) (by omega) (by omega)
  have xU := sU.next
  have zU : kU.blks.get p8 = some ⟨[ownSl u8 i], 1, 1, true, false⟩ := by rw [sU.get p8 (by omega) (fun e => by have := hu _ e; omega), sT.get p8 (by omega) (fun x => x)]; exact r8
  have wV : kU.wrs p8 0 [ownSl u9 (i + 1)] = some (kU.setB p8 ⟨[ownSl u9 (i + 1)], 1, 1, true, false⟩) := wrs1_of zU rfl (by simp) rfl
  have sV : Same kU (kU.setB p8 ⟨[ownSl u9 (i + 1)], 1, 1, true, false⟩) (fun j => j = p8) := Same.setB rfl
  have gV : (kU.setB p8 ⟨[ownSl u9 (i + 1)], 1, 1, true, false⟩).blks.get p8 = some ⟨[ownSl u9 (i + 1)], 1, 1, true, false⟩ := by rw [setB_get, if_pos rfl]
  generalize kU.setB p8 ⟨[ownSl u9 (i + 1)], 1, 1, true, false⟩ = kV at wV sV gV
  have gV7 : kV.blks.get p5 = some ⟨[I tot', I f], 2, 2, true, false⟩ := by rw [sV.get p5 (by omega) h58, sU.get p5 (by omega) (fun e => by have := hu _ e; omega), sT.get p5 (by omega) (fun x => x)]; exact gS
  have hn : ∀ y, u9 = some y → lim ≤ y := fun y hy => by
    rcases nU y hy with e | e
    · exact hu y e
    · omega
  refine ⟨kS, kT, u9, kU, kV, rd_of gR, rd_of zR, wS, rd_of r8, rA, hhT, aU, wV, gV7, gV, oU.same sV (fun y hy e => by have := hn y hy; omega), hn, ?_⟩
  exact (((sS.mono (T := fun j => j = p5 ∨ j = p8 ∨ u8 = some j) (fun _ e => .inl e)).trans sT (fun _ _ x => x.elim)).trans sU (fun j hj e => .inr (.inr e))).trans sV (fun j hj e => .inr (.inl e))

def Tr.kindN : Tr → Nat
  | .empty _ => 1
  | .leaf _ _ _ => 2
  | .inner _ _ _ _ _ _ _ => 3
theorem ok_word {C : List Int} : ∀ {t : Tr}, t.ok C → ∃ a, 1 ≤ a ∧ a ≤ C.length ∧ (1 ≤ t.kindN ∧ t.kindN ≤ 3) ∧ t.word = (a : Int) * 8 + (t.kindN : Nat)
  | .empty a, h => ⟨a, h.1, h.2, ⟨by simp [Tr.kindN], by simp [Tr.kindN]⟩, rfl⟩
  | .leaf a _ _, h => ⟨a, h.1, by have := h.2.1; omega, ⟨by simp [Tr.kindN], by simp [Tr.kindN]⟩, rfl⟩
  | .inner a _ _ _ _ _ cs, h => ⟨a, h.1.1, by have := h.1.2.1; omega, ⟨by simp [Tr.kindN], by simp [Tr.kindN]⟩, rfl⟩

section
variable {P : Program} {tab : Nat → Option AFunc} (hT : TabOk P tab) (V : HasV tab)
include hT V

set_option maxHeartbeats 1000000 in
theorem idealInner_spec (H : Has tab) (V5 : HasV5 tab) (V8 : HasV8 tab) (Nu : Num P) {bm : Nat} {um : Option Nat} {C : List Int} {z c o r : Int} (hC : C.length ≤ 65536) {a : Nat} {sz sh ch sm : Int} {ks : List Int} {cs : List Tr} (ih : ∀ t ∈ cs, IdlP P bm um C z c o r t) {h : Heap} (m : MemAt h bm um C z c o r) (hok : (Tr.inner a sz sh ch sm ks cs).ok C) (hid : (Tr.inner a sz sh ch sm ks cs).idl) :
    FSpec P 131 [.pointer (some ⟨bm, 0, none⟩), I a] h fun v h' => v = .tuple #[.agg #[I (contents cs).length, I (firsts cs)], .bool true] ∧ Same h h' (fun _ => False) := by
    refine fspec_cwf hT V8.v115 rfl ?_
    obtain ⟨⟨q1, q2, q3, q4⟩, ⟨p0, p1, p2, p3, p4⟩, hsh, hsz, hks, hcs, hoks⟩ := hok
    obtain ⟨⟨⟨n2, n120⟩, hd, esz, esh, ech, esm, hsi, hkf⟩, hids⟩ := hid
    have hbm := m.lt
    have huml := fun y hy => (m.use y hy).2.2.1
    have s1 : Same h (h.new ⟨[.pointer (some ⟨bm, 0, none⟩)], 1, 1, true, false⟩) (fun _ => False) := Same.new
    have g1 : (h.new ⟨[.pointer (some ⟨bm, 0, none⟩)], 1, 1, true, false⟩).blks.get h.next = some ⟨[.pointer (some ⟨bm, 0, none⟩)], 1, 1, true, false⟩ := by rw [new_get, if_pos rfl]
    have x1 : (h.new ⟨[.pointer (some ⟨bm, 0, none⟩)], 1, 1, true, false⟩).next = h.next + 1 := rfl
    generalize hh1 : h.new ⟨[.pointer (some ⟨bm, 0, none⟩)], 1, 1, true, false⟩ = k1 at s1 g1 x1
    have s2 : Same k1 (k1.new ⟨[I a], 1, 1, true, false⟩) (fun _ => False) := Same.new
    have g2 : (k1.new ⟨[I a], 1, 1, true, false⟩).blks.get k1.next = some ⟨[I a], 1, 1, true, false⟩ := by rw [new_get, if_pos rfl]
    have x2 : (k1.new ⟨[I a], 1, 1, true, false⟩).next = k1.next + 1 := rfl
    generalize hh2 : k1.new ⟨[I a], 1, 1, true, false⟩ = k2 at s2 g2 x2
    have s3 : Same k2 (k2.new ⟨[I 0, I 0], 2, 2, true, false⟩) (fun _ => False) := Same.new
    have g3 : (k2.new ⟨[I 0, I 0], 2, 2, true, false⟩).blks.get k2.next = some ⟨[I 0, I 0], 2, 2, true, false⟩ := by rw [new_get, if_pos rfl]
    have x3 : (k2.new ⟨[I 0, I 0], 2, 2, true, false⟩).next = k2.next + 1 := rfl
    generalize hh3 : k2.new ⟨[I 0, I 0], 2, 2, true, false⟩ = k3 at s3 g3 x3
    have s4 : Same k3 (k3.new ⟨[.bool false], 1, 1, true, false⟩) (fun _ => False) := Same.new
    have g4 : (k3.new ⟨[.bool false], 1, 1, true, false⟩).blks.get k3.next = some ⟨[.bool false], 1, 1, true, false⟩ := by rw [new_get, if_pos rfl]
    have x4 : (k3.new ⟨[.bool false], 1, 1, true, false⟩).next = k3.next + 1 := rfl
    generalize hh4 : k3.new ⟨[.bool false], 1, 1, true, false⟩ = k4 at s4 g4 x4
    have m4 : MemAt k4 bm um C z c o r := m.same (((s1.trans s2 (fun _ _ x => x)).trans s3 (fun _ _ x => x)).trans s4 (fun _ _ x => x)) (fun x => x) (fun _ _ x => x)
    have r41 : k4.rd h.next 0 = some (.pointer (some ⟨bm, 0, none⟩)) := rd_of (by rw [s4.get h.next (by omega) (fun x => x), s3.get h.next (by omega) (fun x => x), s2.get h.next (by omega) (fun x => x)]; exact g1)
    have r42 : k4.rd k1.next 0 = some (I a) := rd_of (by rw [s4.get k1.next (by omega) (fun x => x), s3.get k1.next (by omega) (fun x => x)]; exact g2)
    have F0 : Fact P 14 [.pointer (some ⟨bm, 0, none⟩), I a] k4 (I (cs.length : Int)) k4 := by
      obtain ⟨_, _, F, e, rfl⟩ := at_spec hT V m4 a (by omega)
      rw [p0] at e; subst e; exact F
    have wz : wrapF .i64 ((a : Int) + 0) = (a : Int) := by rw [wrapI] <;> omega
    have s5 : Same k4 (k4.new ⟨[I 0], 1, 1, true, false⟩) (fun _ => False) := Same.new
    have g5 : (k4.new ⟨[I 0], 1, 1, true, false⟩).blks.get k4.next = some ⟨[I 0], 1, 1, true, false⟩ := by rw [new_get, if_pos rfl]
    have x5 : (k4.new ⟨[I 0], 1, 1, true, false⟩).next = k4.next + 1 := rfl
    generalize hh5 : k4.new ⟨[I 0], 1, 1, true, false⟩ = k5 at s5 g5 x5
    have s6 : Same k5 (k5.new ⟨[I 0, I 0], 2, 2, true, false⟩) (fun _ => False) := Same.new
    have g6 : (k5.new ⟨[I 0, I 0], 2, 2, true, false⟩).blks.get k5.next = some ⟨[I 0, I 0], 2, 2, true, false⟩ := by rw [new_get, if_pos rfl]
    have x6 : (k5.new ⟨[I 0, I 0], 2, 2, true, false⟩).next = k5.next + 1 := rfl
    generalize hh6 : k5.new ⟨[I 0, I 0], 2, 2, true, false⟩ = k6 at s6 g6 x6
    have g56 : k6.blks.get k4.next = some ⟨[I 0], 1, 1, true, false⟩ := by rw [s6.get k4.next (by omega) (fun x => x)]; exact g5
    have w7 : k6.wrs k4.next 0 [I (cs.length : Int)] = some (k6.setB k4.next ⟨[I (cs.length : Int)], 1, 1, true, false⟩) := wrs1_of g56 rfl (by simp) rfl
    have s7 : Same k6 (k6.setB k4.next ⟨[I (cs.length : Int)], 1, 1, true, false⟩) (fun j => j = k4.next) := Same.setB rfl
    have g7 : (k6.setB k4.next ⟨[I (cs.length : Int)], 1, 1, true, false⟩).blks.get k4.next = some ⟨[I (cs.length : Int)], 1, 1, true, false⟩ := by rw [setB_get, if_pos rfl]
    have x7 : (k6.setB k4.next ⟨[I (cs.length : Int)], 1, 1, true, false⟩).next = k6.next := rfl
    generalize k6.setB k4.next ⟨[I (cs.length : Int)], 1, 1, true, false⟩ = k7 at w7 s7 g7 x7
    have g67 : k7.blks.get k5.next = some ⟨[I 0, I 0], 2, 2, true, false⟩ := by rw [s7.get k5.next (by omega) (by omega)]; exact g6
    have w8 := st2_agg (wrs2_of (u := I 0) (v := I 0) g67 rfl rfl)
    have s8 : Same k7 (k7.setB k5.next ⟨[I 0, I 0], 2, 2, true, false⟩) (fun j => j = k5.next) := Same.setB rfl
    have g8 : (k7.setB k5.next ⟨[I 0, I 0], 2, 2, true, false⟩).blks.get k5.next = some ⟨[I 0, I 0], 2, 2, true, false⟩ := by rw [setB_get, if_pos rfl]
    have x8 : (k7.setB k5.next ⟨[I 0, I 0], 2, 2, true, false⟩).next = k7.next := rfl
    generalize k7.setB k5.next ⟨[I 0, I 0], 2, 2, true, false⟩ = k8 at w8 s8 g8 x8
    have s9 : Same k8 (k8.new ⟨[.slice none 0 0], 1, 1, true, false⟩) (fun _ => False) := Same.new
    have g9 : (k8.new ⟨[.slice none 0 0], 1, 1, true, false⟩).blks.get k8.next = some ⟨[.slice none 0 0], 1, 1, true, false⟩ := by rw [new_get, if_pos rfl]
    have x9 : (k8.new ⟨[.slice none 0 0], 1, 1, true, false⟩).next = k8.next + 1 := rfl
    generalize hh9 : k8.new ⟨[.slice none 0 0], 1, 1, true, false⟩ = k9 at s9 g9 x9
    obtain ⟨_, h4, F109, rfl, c1, c2, x4h, s4h⟩ := children_spec hT V5 k9 (some ⟨bm, 0, none⟩) a
    have s48 : Same k4 k9 (fun _ => False) := (((s5.trans s6 (fun _ _ x => x)).trans s7 (fun j hj e => by omega)).trans s8 (fun j hj e => by omega)).trans s9 (fun _ _ x => x)
    have r91 : k9.rd h.next 0 = some (.pointer (some ⟨bm, 0, none⟩)) := rd_of (by rw [s48.get h.next (by omega) (fun x => x), s4.get h.next (by omega) (fun x => x), s3.get h.next (by omega) (fun x => x), s2.get h.next (by omega) (fun x => x)]; exact g1)
    have r92 : k9.rd k1.next 0 = some (I a) := rd_of (by rw [s48.get k1.next (by omega) (fun x => x), s4.get k1.next (by omega) (fun x => x), s3.get k1.next (by omega) (fun x => x)]; exact g2)
    simp only [af131, cwf_seq, cwf_ops, andThen_normal, owf_nil, o_p, o_r, o_e, owf_call, behind_eq, bo_eq, optQ_some, opt2_some, pop, popQ, rop_load1, ldV_ptr, ev, evs, putA, putArgs, look_put, abinF_eq, abin, eop_box, List.length_cons, List.length_nil, scalar_int, scalar_ptr, decide_true, cond_true, ite_true, ite_false, Nat.reduceEqDiff, Nat.reduceAdd, Nat.zero_add, eop_alloc, box1, hh1, hh2, List.length_cons, List.length_nil, hh3, hh4, r41, r42, wz]
    refine ⟨_, _, F0, ?_⟩
    simp only [cwf_seq, cwf_ops, andThen_normal, owf_nil, o_p, o_r, o_e, owf_call, behind_eq, bo_eq, optQ_some, opt2_some, pop, popQ, rop_load1, ldV_ptr, ev, evs, putA, look_put, eop_store1, st1, evP_nil, fillA_nil, List.length_cons, List.length_nil, scalar_int, ite_true, ite_false, Nat.reduceEqDiff, Nat.reduceAdd, Nat.zero_add, eop_alloc, List.length_cons, List.length_nil, hh5, hh6, w7, eop_store2, w8, hh9, r91, r92]
    refine ⟨_, _, F109, ?_⟩
    simp only [cwf_block, andThen_normal, owf_nil, behind_eq, putA, cwf_range]
    refine cw_gen (fun t => look t 2 = .pointer (some ⟨h.next, 0, none⟩) ∧ look t 3 = .pointer (some ⟨k1.next, 0, none⟩) ∧ look t 4 = .pointer (some ⟨k2.next, 0, none⟩) ∧ look t 5 = .pointer (some ⟨k3.next, 0, none⟩) ∧ look t 6 = .pointer (some ⟨k4.next, 0, none⟩) ∧ look t 7 = .pointer (some ⟨k5.next, 0, none⟩) ∧ look t 8 = .pointer (some ⟨k8.next, 0, none⟩) ∧ look t 22 = .func (.func 184) #[] #[.pointer (some ⟨k9.next, 0, none⟩), .pointer (some ⟨k9.next + 1, 0, none⟩)]) ⟨by simp only [look_put, ite_true, ite_false, Nat.reduceEqDiff], by simp only [look_put, ite_true, ite_false, Nat.reduceEqDiff], by simp only [look_put, ite_true, ite_false, Nat.reduceEqDiff], by simp only [look_put, ite_true, ite_false, Nat.reduceEqDiff], by simp only [look_put, ite_true, ite_false, Nat.reduceEqDiff], by simp only [look_put, ite_true, ite_false, Nat.reduceEqDiff], by simp only [look_put, ite_true, ite_false, Nat.reduceEqDiff], by simp only [look_put, ite_true, ite_false, Nat.reduceEqDiff]⟩ ?_
    rintro tsX ⟨t2, t3, t4, t5, t6, t7, t8, t22⟩
    refine cw_range' t22 (fun k kts kn kps kasg kbody kst kpd => ?_)
    have T9 : SameB k9 (h4.enter k) (fun _ => False) := s4h.toB.trans (sameB_enter h4 k) (fun _ _ x => x)
    have xE : (h4.enter k).next = h4.next + 2 := rfl
    have lE : (h4.enter k).loops.get (h4.next + 1) = some k := by rw [enter_loops, if_pos rfl]
    have e1 : (h4.enter k).rd k9.next 0 = some (.pointer (some ⟨bm, 0, none⟩)) := c1
    have e2 : (h4.enter k).rd (k9.next + 1) 0 = some (I a) := c2
    generalize hE : h4.enter k = E at T9 xE lE e1 e2
    have T4 : SameB k4 E (fun _ => False) := s48.toB.trans T9 (fun _ _ x => x)
    have T0 : SameB h E (fun _ => False) := (((s1.trans s2 (fun _ _ x => x)).trans s3 (fun _ _ x => x)).trans s4 (fun _ _ x => x)).toB.trans T4 (fun _ _ x => x)
    have b1 : E.blks.get h.next = some ⟨[.pointer (some ⟨bm, 0, none⟩)], 1, 1, true, false⟩ := by rw [T4.get h.next (by omega) (fun x => x), s4.get h.next (by omega) (fun x => x), s3.get h.next (by omega) (fun x => x), s2.get h.next (by omega) (fun x => x)]; exact g1
    have b2 : E.blks.get k1.next = some ⟨[I a], 1, 1, true, false⟩ := by rw [T4.get k1.next (by omega) (fun x => x), s4.get k1.next (by omega) (fun x => x), s3.get k1.next (by omega) (fun x => x)]; exact g2
    have b3 : E.blks.get k2.next = some ⟨[I 0, I 0], 2, 2, true, false⟩ := by rw [T4.get k2.next (by omega) (fun x => x), s4.get k2.next (by omega) (fun x => x)]; exact g3
    have b4 : E.blks.get k3.next = some ⟨[.bool false], 1, 1, true, false⟩ := by rw [T4.get k3.next (by omega) (fun x => x)]; exact g4
    have b6 : E.blks.get k4.next = some ⟨[I (cs.length : Int)], 1, 1, true, false⟩ := by rw [T9.get k4.next (by omega) (fun x => x), s9.get k4.next (by omega) (fun x => x), s8.get k4.next (by omega) (by omega)]; exact g7
    have b7 : E.blks.get k5.next = some ⟨[I 0, I 0], 2, 2, true, false⟩ := by rw [T9.get k5.next (by omega) (fun x => x), s9.get k5.next (by omega) (fun x => x)]; exact g8
    have b8 : E.blks.get k8.next = some ⟨[.slice none 0 0], 1, 1, true, false⟩ := by rw [T9.get k8.next (by omega) (fun x => x)]; exact g9
    have mE : MemAt E bm um C z c o r := m.sameB T0 (fun x => x) (fun _ _ x => x)
    have memk : ∀ q, Same E q (fun j => j = k5.next ∨ j = k8.next) → MemAt q bm um C z c o r := fun q s => mE.same s (fun e => by omega) (fun y hy e => by have := huml y hy; omega)
    have rdk : ∀ (q : Heap) (b : Nat) (v : Value), Same E q (fun j => j = k5.next ∨ j = k8.next) → b ≠ k5.next → b ≠ k8.next → b < E.next → E.rd b 0 = some v → q.rd b 0 = some v := by
      intro q b v s hb hb' hb2 hv
      unfold Heap.rd at hv ⊢
      rw [s.get b hb2 (fun e => by omega)]; exact hv
    have hct : ∀ i, i < cs.length → (contents (cs.take (i + 1))).length = (contents (cs.take i)).length + sizeN (contents cs).length i := by
      intro i hi
      rw [take_one cs hi, contents_app, List.length_append]
      simp only [contents, List.append_nil]
      rw [hsi i hi]
    have hcm : ∀ i, (contents (cs.take i)).length ≤ (contents cs).length := by
      intro i
      have e : contents cs = contents (cs.take i ++ cs.drop i) := by rw [List.take_append_drop]
      rw [e, contents_app, List.length_append]; omega
    have ef : ∀ (hi : 0 < cs.length), cs[0].first = firsts cs := by
      intro hi
      cases cs with
      | nil => simp at hi
      | cons c cs => rfl
    obtain ⟨vv, hX, FX, ⟨uX, gX7, gX8, oX, nX, sX⟩⟩ := children1_spec hT V H V5 (yv := .func (.yield (h4.next + 1)) #[] #[]) (bm := bm) (um := um) (C := C) (z := z) (c := c) (o := o) (r := r) (a := a) (d := cs.length) (pm := k9.next) (pa := k9.next + 1) (cs := cs) rfl hC (by omega) p0 hcs hoks (fun f fs cs e => by cases e) (fun f fs cs e => by cases e)
      (fun i q => ∃ u8 : Option Nat, q.blks.get k5.next = some ⟨[I ((contents (cs.take i)).length : Int), I (if i = 0 then 0 else firsts cs)], 2, 2, true, false⟩ ∧ q.blks.get k8.next = some ⟨[ownSl u8 i], 1, 1, true, false⟩ ∧ OwnAt q u8 1 i ((List.range i).map fun j => I (sizeN (contents cs).length j)) ∧ (∀ y, u8 = some y → E.next ≤ y) ∧ Same E q (fun j => j = k5.next ∨ j = k8.next))
      (fun i q ⟨_, _, _, _, _, s⟩ => ⟨memk q s, rdk q _ _ s (by omega) (by omega) (by omega) e1, rdk q _ _ s (by omega) (by omega) (by omega) e2⟩)
      (fun i q q' ⟨u8, i1, i2, i3, i4, s⟩ s' => ⟨u8, by rw [s'.get k5.next (by have := s.next; omega) (fun x => x)]; exact i1, by rw [s'.get k8.next (by have := s.next; omega) (fun x => x)]; exact i2, i3.same s' (fun _ _ x => x), i4, s.trans s' (fun _ _ x => x.elim)⟩)
      (fun i q q' ⟨_, _, _, _, _, s⟩ ⟨_, _, _, _, _, s'⟩ => by rw [s'.marks, s.marks])
      (fun i hi q ⟨u8, i1, i2, i3, i4, s⟩ => by
        rw [callV_y]
        have lq : q.loops.get (h4.next + 1) = some k := by rw [s.loops _ (by omega) (by omega)]; exact lE
        refine yspec_round lq kts kn kps kasg kbody kst kpd rfl rfl (fun q1 hq1 => ?_)
        have bq : SameB q (q.setL (h4.next + 1) { k with st := 1 } q.marks) (fun j => j = h4.next + 1) := sameB_setL _ _ _ _
        have l1 : (q.setL (h4.next + 1) { k with st := 1 } q.marks).loops.get (h4.next + 1) = some { k with st := 1 } := by rw [setL_loops, if_pos rfl]
        have x1q : (q.setL (h4.next + 1) { k with st := 1 } q.marks).next = q.next := rfl
        have m1q : (q.setL (h4.next + 1) { k with st := 1 } q.marks).marks = q.marks := rfl
        have bl1 : ∀ j, (q.setL (h4.next + 1) { k with st := 1 } q.marks).blks.get j = q.blks.get j := fun j => rfl
        rw [← hq1] at bq l1 x1q m1q bl1
        have xs := s.next
        have mq1 : MemAt q1 bm um C z c o r := (memk q s).sameB bq (fun e => by omega) (fun y hy e => by have := huml y hy; omega)
        have y1 : q1.blks.get h.next = some ⟨[.pointer (some ⟨bm, 0, none⟩)], 1, 1, true, false⟩ := by rw [bl1, s.get h.next (by omega) (by omega)]; exact b1
        have y2 : q1.blks.get k1.next = some ⟨[I a], 1, 1, true, false⟩ := by rw [bl1, s.get k1.next (by omega) (by omega)]; exact b2
        have y6 : q1.blks.get k4.next = some ⟨[I (cs.length : Int)], 1, 1, true, false⟩ := by rw [bl1, s.get k4.next (by omega) (by omega)]; exact b6
        have y7 : q1.blks.get k5.next = some ⟨[I ((contents (cs.take i)).length : Int), I (if i = 0 then 0 else firsts cs)], 2, 2, true, false⟩ := by rw [bl1]; exact i1
        have y8 : q1.blks.get k8.next = some ⟨[ownSl u8 i], 1, 1, true, false⟩ := by rw [bl1]; exact i2
        have o1 : OwnAt q1 u8 1 i ((List.range i).map fun j => I (sizeN (contents cs).length j)) := ⟨fun y hy => by
          obtain ⟨z1, z2, z3⟩ := i3.use y hy
          exact ⟨by rw [bl1]; exact z1, by omega, z3⟩, i3.non, i3.len, i3.sc⟩
        obtain ⟨_, q2, F2, rfl, s2q⟩ := ih cs[i] (List.getElem_mem _) q1 mq1 (oks_mem hoks i hi) (idls_mem hids i hi)
        have x2q := s2q.next
        have sA : Same q2 (q2.new ⟨[I 0, I 0], 2, 2, true, false⟩) (fun _ => False) := Same.new
        have gA : (q2.new ⟨[I 0, I 0], 2, 2, true, false⟩).blks.get q2.next = some ⟨[I 0, I 0], 2, 2, true, false⟩ := by rw [new_get, if_pos rfl]
        have xA : (q2.new ⟨[I 0, I 0], 2, 2, true, false⟩).next = q2.next + 1 := rfl
        generalize hhA : q2.new ⟨[I 0, I 0], 2, 2, true, false⟩ = kA at sA gA xA
        have wB := st2_agg (wrs2_of (u := I (cs[i].content.length : Int)) (v := I cs[i].first) gA rfl rfl)
        have sB : Same kA (kA.setB q2.next ⟨[I (cs[i].content.length : Int), I cs[i].first], 2, 2, true, false⟩) (fun j => j = q2.next) := Same.setB rfl
        have gB : (kA.setB q2.next ⟨[I (cs[i].content.length : Int), I cs[i].first], 2, 2, true, false⟩).blks.get q2.next = some ⟨[I (cs[i].content.length : Int), I cs[i].first], 2, 2, true, false⟩ := by rw [setB_get, if_pos rfl]
        have xB : (kA.setB q2.next ⟨[I (cs[i].content.length : Int), I cs[i].first], 2, 2, true, false⟩).next = kA.next := rfl
        generalize kA.setB q2.next ⟨[I (cs[i].content.length : Int), I cs[i].first], 2, 2, true, false⟩ = kB at wB sB gB xB
        have s1B : Same q1 kB (fun _ => False) := (s2q.trans sA (fun _ _ x => x)).trans sB (fun j hj e => by omega)
        have mB : MemAt kB bm um C z c o r := mq1.same s1B (fun x => x) (fun _ _ x => x)
        obtain ⟨_, kC, FC, rfl, sC⟩ := childat_spec hT V kB a cs.length i (by omega) (by omega) (by omega)
        have xC := sC.next
        have s1C : Same q1 kC (fun _ => False) := s1B.trans sC (fun _ _ x => x)
        have mC : MemAt kC bm um C z c o r := mB.same sC (fun x => x) (fun _ _ x => x)
        have FD : Fact P 14 [.pointer (some ⟨bm, 0, none⟩), I ((a + 4 + cs.length + i : Nat) : Int)] kC (I cs[i].word) kC := by
          obtain ⟨_, _, F, e, rfl⟩ := at_spec hT V mC (a + 4 + cs.length + i) (by omega)
          rw [hcs i hi] at e; subst e; exact F
        obtain ⟨ct, hct1, hct2, hct3, hct4⟩ := ok_word (oks_mem hoks i hi)
        obtain ⟨_, kC', FK, rfl, rfl⟩ := kind_spec hT V H kC ct cs[i].kindN hct1 (by omega) hct3.1 (by omega)
        rw [← hct4] at FK
        have ck5 : ((cs[i].kindN : Int) == 5) = false := by rw [beq_eq_false_iff_ne]; omega
        obtain ⟨_, kD, FE, rfl, sD⟩ := keyat_spec hT V kC' a i (by omega) (by omega)
        have xD := sD.next
        have s1D : Same q1 kD (fun _ => False) := s1C.trans sD (fun _ _ x => x)
        have mD : MemAt kD bm um C z c o r := mC.same sD (fun x => x) (fun _ _ x => x)
        let J : Heap → Prop := fun k => k.rd h.next 0 = some (.pointer (some ⟨bm, 0, none⟩)) ∧ k.rd k1.next 0 = some (I a) ∧ k.rd k4.next 0 = some (I (cs.length : Int)) ∧ k.rd q2.next 1 = some (I cs[i].first)
        have jB : J kB := ⟨rd_of (by rw [s1B.get h.next (by omega) (fun x => x)]; exact y1), rd_of (by rw [s1B.get k1.next (by omega) (fun x => x)]; exact y2), rd_of (by rw [s1B.get k4.next (by omega) (fun x => x)]; exact y6), rd_of gB⟩
        have jC : J kC' := ⟨rd_of (by rw [s1C.get h.next (by omega) (fun x => x)]; exact y1), rd_of (by rw [s1C.get k1.next (by omega) (fun x => x)]; exact y2), rd_of (by rw [s1C.get k4.next (by omega) (fun x => x)]; exact y6), rd_of (by rw [sC.get q2.next (by omega) (fun x => x)]; exact gB)⟩
        have jD : J kD := ⟨rd_of (by rw [s1D.get h.next (by omega) (fun x => x)]; exact y1), rd_of (by rw [s1D.get k1.next (by omega) (fun x => x)]; exact y2), rd_of (by rw [s1D.get k4.next (by omega) (fun x => x)]; exact y6), rd_of (by rw [sD.get q2.next (by omega) (fun x => x), sC.get q2.next (by omega) (fun x => x)]; exact gB)⟩
        have vp : veq (.pointer (some ⟨bm, 0, none⟩)) (.pointer (some ⟨bm, 0, none⟩)) = true := by simp [veq, veq1]
        have r1q : q1.rd h.next 0 = some (.pointer (some ⟨bm, 0, none⟩)) := rd_of y1
        simp only [cwf_seq, cwf_ops, cwf_block, andThen_normal, owf_nil, o_p, o_r, owf_call, bo_eq, optQ_some, pop, popQ, rop_load1, ldV_ptr, ev, evs, putA, look_put, ite_true, ite_false, Nat.reduceEqDiff, true_and, putPs_nil, putPs_cons, t2, r1q]
        refine ⟨_, _, F2, ?_⟩
        simp only [cwf_seq, andThen_normal, owf_nil, o_p, o_e, behind_eq, bo_eq, optQ_some, opt2_some, pop, popQ, ev, putA, look_put, List.length_cons, List.length_nil, ite_true, ite_false, Nat.reduceEqDiff, Nat.reduceAdd, Nat.zero_add, List.getElem?_cons_zero, List.getElem?_cons_succ, eop_alloc, List.length_cons, List.length_nil, hhA, eop_store2, wB]
        by_cases h0 : i = 0
        · skip
          obtain ⟨CR, hcr, g118, g58, g108⟩ : ∃ CR : CallF, CfOk P CR ∧ CR (.fn 16) [I a, I (cs.length : Int), I i] kB = some (I ((a + 4 + cs.length + i : Nat) : Int), kC') ∧ CR (.fn 14) [.pointer (some ⟨bm, 0, none⟩), I ((a + 4 + cs.length + i : Nat) : Int)] kC' = some (I cs[i].word, kC') ∧ CR (.fn 13) [I cs[i].word] kC' = some (I (cs[i].kindN : Int), kC') :=
            ⟨cfOf 16 _ kB _ kC' (cfOf 14 _ kC' _ kC' (cfOf 13 _ kC' _ kC' cf00)), cfOf_ok FC (cfOf_ok FD (cfOf_ok FK cf00_ok)), cfOf_eq, by rw [cfOf_ne (by decide)]; exact cfOf_eq, by rw [cfOf_ne (by decide), cfOf_ne (by decide)]; exact cfOf_eq⟩
          have cgt : ((i : Int) > 0) = False := by simp; omega
          have pjB := fun (r : List AOper) (ts : T Value) (dst : Option Nat) (q : POp) (S : T Value → Heap → Prop) => j_p (J := J) (cf := CR) (r := r) (ts := ts) (dst := dst) (q := q) (S := S) jB
          have pjC := fun (r : List AOper) (ts : T Value) (dst : Option Nat) (q : POp) (S : T Value → Heap → Prop) => j_p (J := J) (cf := CR) (r := r) (ts := ts) (dst := dst) (q := q) (S := S) jC
          have pjD := fun (r : List AOper) (ts : T Value) (dst : Option Nat) (q : POp) (S : T Value → Heap → Prop) => j_p (J := J) (cf := CR) (r := r) (ts := ts) (dst := dst) (q := q) (S := S) jD
          have zA : kC'.blks.get q2.next = some ⟨[I (cs[i].content.length : Int), I cs[i].first], 2, 2, true, false⟩ := by rw [sC.get q2.next (by omega) (fun x => x)]; exact gB
          have z7 : kC'.blks.get k5.next = some ⟨[I ((contents (cs.take i)).length : Int), I (if i = 0 then 0 else firsts cs)], 2, 2, true, false⟩ := by rw [s1C.get k5.next (by omega) (fun x => x)]; exact y7
          have z8 : kC'.blks.get k8.next = some ⟨[ownSl u8 i], 1, 1, true, false⟩ := by rw [s1C.get k8.next (by omega) (fun x => x)]; exact y8
          have oQ := o1.same s1C (fun _ _ x => x)
          have xQ := s1C.next
          have c0 : ((i : Int) == 0) = true := by simp; omega
          have rA1 : kC'.rd q2.next (0 + 1) = some (I cs[i].first) := rd_of zA
          have wR : kC'.wrs k5.next (0 + 1) [I cs[i].first] = some (kC'.setB k5.next ⟨[I ((contents (cs.take i)).length : Int), I cs[i].first], 2, 2, true, false⟩) := wrs1_of z7 rfl (by simp) rfl
          have sR : Same kC' (kC'.setB k5.next ⟨[I ((contents (cs.take i)).length : Int), I cs[i].first], 2, 2, true, false⟩) (fun j => j = k5.next) := Same.setB rfl
          have gR : (kC'.setB k5.next ⟨[I ((contents (cs.take i)).length : Int), I cs[i].first], 2, 2, true, false⟩).blks.get k5.next = some ⟨[I ((contents (cs.take i)).length : Int), I cs[i].first], 2, 2, true, false⟩ := by rw [setB_get, if_pos rfl]
          generalize kC'.setB k5.next ⟨[I ((contents (cs.take i)).length : Int), I cs[i].first], 2, 2, true, false⟩ = kR at wR sR gR
          have xR := sR.next
          have efi : cs[i].first = firsts cs := by
            subst h0
            exact ef hi
          have zR : kR.blks.get q2.next = some ⟨[I (cs[i].content.length : Int), I cs[i].first], 2, 2, true, false⟩ := by rw [sR.get q2.next (by omega) (by omega)]; exact zA
          have zR8 : kR.blks.get k8.next = some ⟨[ownSl u8 i], 1, 1, true, false⟩ := by rw [sR.get k8.next (by omega) (by omega)]; exact z8
          have oR := oQ.same sR (fun y hy e => by have := i4 y hy; omega)
          have s1R : Same q1 kR (fun j => j = k5.next ∨ j = k8.next) := (s1C.mono (fun _ x => x.elim)).trans sR (fun j hj e => .inl e)
          rw [efi] at gR
          have hxR : q2.next < kR.next := by omega
          have wT : wrapF .i64 (((contents (cs.take i)).length : Int) + (cs[i].content.length : Int)) = ((contents (cs.take (i + 1))).length : Int) := by
            have h1 := hct i hi
            have h2 := hcm (i + 1)
            have h3 := hsi i hi
            rw [wrapI] <;> omega
          obtain ⟨kS, kT, u9, kU, kV, rT, rS, wS, rS8, rSA, hhT, aU, wV, gV7, gV8, oV, nV, sRV⟩ := tailH (lim := E.next) (tot' := ((contents (cs.take (i + 1))).length : Int)) gR zR zR8 oR (by omega) (by omega) (by omega) (by omega) (by omega) hxR (by omega) i4 (by omega)
          refine cwf_calm J CR hcr jB ?_
          simp only [optQ_some, pop, popQ, ldV_ptr, ev, evs, putA, look_put, isB_false, ite_true, ite_false, Bool.not_true, Bool.not_false, Nat.reduceEqDiff, j_load, j_call, j_on, bj_eq, pjB, t2, t3, t6]
          refine ⟨_, fun k hk => hk.1, vp, _, fun k hk => hk.2.1, veq_int _ _, _, fun k hk => hk.2.2.1, veq_int _ _, ?_⟩
          simp only [cwf_seq, cwf_ops, c_false, cwf_skip, andThen_normal, owf_nil, o_p, bo_eq, optQ_some, opt2_some, pop, popQ, ev, evs, putA, look_put, isB_true, isB_false, abinF_eq, abin, decide_true, decide_false, cond_true, cond_false, ite_true, ite_false, Bool.not_false, Nat.reduceEqDiff, j_nil, j_call, j_on, j_off, bj_eq, bj2_eq, pjC, g118, g58, g108, ck5, cgt]
          refine ⟨jC, jC, jC, ?_⟩
          simp only [cwf_seq, cwf_ops, c_true, andThen_normal, owf_nil, o_p, o_r, o_e, behind_eq, bo_eq, optQ_some, opt2_some, pop, popQ, rop_load1, ldV_ptr, ev, putA, look_put, isB_true, eop_store1, st1, Nat.add_zero, scalar_int, ite_true, ite_false, Nat.reduceEqDiff, Nat.zero_add, t7, c0, rA1, wR]
          simp only [cwf_ops, andThen_normal, blockQ_normal, owf_nil, o_p, o_r, o_e, behind_eq, bo_eq, optQ_some, opt2_some, pop, popQ, rop_load1, ldV_ptr, ev, putA, look_put, abinF_eq, abin, eop_store1, eop_app, st1, eop_buildS, bldS_some, evP_nil, evP_cons, fillA_nil, fillA_one, List.length_cons, List.length_nil, List.set_cons_zero, Nat.lt_add_one, Nat.mul_one, Nat.add_zero, scalar_slice, scalar_int, decide_true, cond_true, ite_true, ite_false, Nat.reduceEqDiff, Nat.zero_add, true_and, t7, t8, rT, rS, wT, wS, rS8, rSA, hhT, aU, wV]
          have hno9 : ¬ (h4.next + 1 = k5.next ∨ h4.next + 1 = k8.next ∨ u8 = some (h4.next + 1)) := by
            rintro (e | e | e)
            · omega
            · omega
            · have := i4 _ e
              omega
          have l2 : kV.loops.get (h4.next + 1) = some { k with st := 1 } := by rw [sRV.loops (h4.next + 1) (by omega) hno9, s1R.loops (h4.next + 1) (by omega) (by omega)]; exact l1
          have oV' : OwnAt kV u9 1 (i + 1) ((List.range (i + 1)).map fun j => I (sizeN (contents cs).length j)) := by
            rw [List.range_succ, List.map_append]
            have e := hsi i hi
            rw [e] at oV
            exact oV
          have hsub : ∀ j, j < E.next → (j = k5.next ∨ j = k8.next ∨ u8 = some j) → (j = k5.next ∨ j = k8.next) ∨ j = h4.next + 1 := by
            rintro j hj (e | e | e)
            · exact .inl (.inl e)
            · exact .inl (.inr e)
            · have := i4 _ e
              omega
          refine ⟨l2, u9, gV7, gV8, ⟨fun y hy => oV'.use y hy, oV'.non, oV'.len, oV'.sc⟩, nV, ?_⟩
          refine SameB.of ?_ ?_
          · refine SameB.less (b := h4.next + 1) (((((s.toB.mono (T := fun j => (j = k5.next ∨ j = k8.next) ∨ j = h4.next + 1) (fun j e => .inl e)).trans bq (fun j hj e => .inr e)).trans s1R.toB (fun j hj e => .inl e)).trans sRV.toB (fun j hj e => hsub j hj e)).trans (sameB_setL kV (h4.next + 1) k q.marks) (fun j hj e => .inr e)) ?_ ?_
            · rw [setL_loops, if_pos rfl]; exact lE.symm
            · show kV.blks.get _ = _
              rw [sRV.get (h4.next + 1) (by omega) hno9, s1R.get (h4.next + 1) (by omega) (by omega), bl1, s.get (h4.next + 1) (by omega) (by omega)]
          · rw [setL_marks, s.marks]
        · skip
          have FF : Fact P 14 [.pointer (some ⟨bm, 0, none⟩), I ((a + 4 + i : Nat) : Int)] kD (I cs[i].first) kD := by
            obtain ⟨_, _, F, e, rfl⟩ := at_spec hT V mD (a + 4 + i) (by omega)
            have e1 := hks (i - 1) (by omega)
            have e2 := hkf (i - 1) (by omega) (by omega)
            have e3 : i - 1 + 1 = i := by omega
            simp only [e3] at e2
            rw [show a + 5 + (i - 1) = a + 4 + i by omega, e2] at e1
            rw [e1] at e; subst e; exact F
          obtain ⟨CR, hcr, g118, g58, g108, g130, g58b⟩ : ∃ CR : CallF, CfOk P CR ∧ CR (.fn 16) [I a, I (cs.length : Int), I i] kB = some (I ((a + 4 + cs.length + i : Nat) : Int), kC') ∧ CR (.fn 14) [.pointer (some ⟨bm, 0, none⟩), I ((a + 4 + cs.length + i : Nat) : Int)] kC' = some (I cs[i].word, kC') ∧ CR (.fn 13) [I cs[i].word] kC' = some (I (cs[i].kindN : Int), kC') ∧ CR (.fn 185) [I a, I i] kC' = some (I ((a + 4 + i : Nat) : Int), kD) ∧ CR (.fn 14) [.pointer (some ⟨bm, 0, none⟩), I ((a + 4 + i : Nat) : Int)] kD = some (I cs[i].first, kD) :=
            ⟨cfOf 16 _ kB _ kC' (cfOf 14 _ kC' _ kC' (cfOf 13 _ kC' _ kC' (cfOf 185 _ kC' _ kD (cfOf 14 _ kD _ kD cf00)))), cfOf_ok FC (cfOf_ok FD (cfOf_ok FK (cfOf_ok FE (cfOf_ok FF cf00_ok)))), cfOf_eq, by rw [cfOf_ne (by decide)]; exact cfOf_eq, by rw [cfOf_ne (by decide), cfOf_ne (by decide)]; exact cfOf_eq, by rw [cfOf_ne (by decide), cfOf_ne (by decide), cfOf_ne (by decide)]; exact cfOf_eq, by
              rw [cfOf_ne (by decide)]
              unfold cfOf
              rw [if_neg (by
                rintro ⟨_, e, _⟩
                simp only [List.cons.injEq, Value.int.injEq, true_and, and_true] at e
                omega), if_neg (by
                rintro ⟨e, _⟩
                cases e), if_neg (by
                rintro ⟨e, _⟩
                cases e), if_pos ⟨rfl, rfl, rfl⟩]⟩
          have cgt : ((i : Int) > 0) = True := by simp; omega
          have cne : (cs[i].first != cs[i].first) = false := by simp
          have pjB := fun (r : List AOper) (ts : T Value) (dst : Option Nat) (q : POp) (S : T Value → Heap → Prop) => j_p (J := J) (cf := CR) (r := r) (ts := ts) (dst := dst) (q := q) (S := S) jB
          have pjC := fun (r : List AOper) (ts : T Value) (dst : Option Nat) (q : POp) (S : T Value → Heap → Prop) => j_p (J := J) (cf := CR) (r := r) (ts := ts) (dst := dst) (q := q) (S := S) jC
          have pjD := fun (r : List AOper) (ts : T Value) (dst : Option Nat) (q : POp) (S : T Value → Heap → Prop) => j_p (J := J) (cf := CR) (r := r) (ts := ts) (dst := dst) (q := q) (S := S) jD
          have zA : kD.blks.get q2.next = some ⟨[I (cs[i].content.length : Int), I cs[i].first], 2, 2, true, false⟩ := by rw [sD.get q2.next (by omega) (fun x => x), sC.get q2.next (by omega) (fun x => x)]; exact gB
          have z7 : kD.blks.get k5.next = some ⟨[I ((contents (cs.take i)).length : Int), I (if i = 0 then 0 else firsts cs)], 2, 2, true, false⟩ := by rw [s1D.get k5.next (by omega) (fun x => x)]; exact y7
          have z8 : kD.blks.get k8.next = some ⟨[ownSl u8 i], 1, 1, true, false⟩ := by rw [s1D.get k8.next (by omega) (fun x => x)]; exact y8
          have oQ := o1.same s1D (fun _ _ x => x)
          have xQ := s1D.next
          have c0 : ((i : Int) == 0) = false := by simp; omega
          rw [if_neg h0] at z7
          have s1R : Same q1 kD (fun j => j = k5.next ∨ j = k8.next) := s1D.mono (fun _ x => x.elim)
          obtain ⟨kR, ekR⟩ : ∃ k, k = kD := ⟨_, rfl⟩
          have gR := z7
          have zR := zA
          have zR8 := z8
          have oR := oQ
          rw [← ekR] at gR zR zR8 oR s1R
          have xR : kR.next = kD.next := by rw [ekR]
          have hxR : q2.next < kR.next := by omega
          have wT : wrapF .i64 (((contents (cs.take i)).length : Int) + (cs[i].content.length : Int)) = ((contents (cs.take (i + 1))).length : Int) := by
            have h1 := hct i hi
            have h2 := hcm (i + 1)
            have h3 := hsi i hi
            rw [wrapI] <;> omega
          obtain ⟨kS, kT, u9, kU, kV, rT, rS, wS, rS8, rSA, hhT, aU, wV, gV7, gV8, oV, nV, sRV⟩ := tailH (lim := E.next) (tot' := ((contents (cs.take (i + 1))).length : Int)) gR zR zR8 oR (by omega) (by omega) (by omega) (by omega) (by omega) hxR (by omega) i4 (by omega)
          refine cwf_calm J CR hcr jB ?_
          simp only [optQ_some, pop, popQ, ldV_ptr, ev, evs, putA, look_put, isB_false, ite_true, ite_false, Bool.not_true, Bool.not_false, Nat.reduceEqDiff, j_load, j_call, j_on, bj_eq, pjB, t2, t3, t6]
          refine ⟨_, fun k hk => hk.1, vp, _, fun k hk => hk.2.1, veq_int _ _, _, fun k hk => hk.2.2.1, veq_int _ _, ?_⟩
          simp only [optQ_some, opt2_some, pop, popQ, ldV_ptr, ev, evs, putA, look_put, isB_true, isB_false, abinF_eq, abin, decide_true, cond_true, cond_false, ite_true, ite_false, Bool.not_false, Nat.reduceEqDiff, j_load, j_call, j_on, bj_eq, bj2_eq, pjC, t2, t3, g118, g58, g108, ck5, cgt]
          refine ⟨jC, jC, jC, _, fun k hk => hk.1, vp, _, fun k hk => hk.2.1, veq_int _ _, ?_⟩
          simp only [optQ_some, opt2_some, pop, popQ, ldV_ptr, ev, evs, putA, look_put, isB_true, abinF_eq, abin, cond_false, ite_true, ite_false, Nat.reduceEqDiff, Nat.zero_add, j_load, j_call, j_on, bj_eq, bj2_eq, pjD, g130, g58b]
          refine ⟨jD, jD, _, fun k hk => hk.2.2.2, veq_int _ _, ?_⟩
          simp only [cwf_seq, cwf_ops, c_false, cwf_skip, andThen_normal, owf_nil, o_p, bo_eq, optQ_some, pop, popQ, ev, putA, look_put, isB_false, abinF_eq, abin, decide_true, cond_true, cond_false, ite_true, ite_false, Bool.not_false, Nat.reduceEqDiff, j_nil, j_on, bj_eq, pjD, cne]
          simp only [cwf_seq, cwf_ops, c_false, cwf_skip, andThen_normal, o_p, o_r, bo_eq, optQ_some, pop, popQ, rop_load1, ldV_ptr, ev, putA, look_put, isB_false, Nat.add_zero, ite_true, ite_false, Bool.not_false, Nat.reduceEqDiff, t7, c0, ← ekR]
          simp only [cwf_ops, andThen_normal, blockQ_normal, owf_nil, o_p, o_r, o_e, behind_eq, bo_eq, optQ_some, opt2_some, pop, popQ, rop_load1, ldV_ptr, ev, putA, look_put, abinF_eq, abin, eop_store1, eop_app, st1, eop_buildS, bldS_some, evP_nil, evP_cons, fillA_nil, fillA_one, List.length_cons, List.length_nil, List.set_cons_zero, Nat.lt_add_one, Nat.mul_one, Nat.add_zero, scalar_slice, scalar_int, decide_true, cond_true, ite_true, ite_false, Nat.reduceEqDiff, Nat.zero_add, true_and, t7, t8, rT, rS, wT, wS, rS8, rSA, hhT, aU, wV]
          have hno9 : ¬ (h4.next + 1 = k5.next ∨ h4.next + 1 = k8.next ∨ u8 = some (h4.next + 1)) := by
            rintro (e | e | e)
            · omega
            · omega
            · have := i4 _ e
              omega
          have l2 : kV.loops.get (h4.next + 1) = some { k with st := 1 } := by rw [sRV.loops (h4.next + 1) (by omega) hno9, s1R.loops (h4.next + 1) (by omega) (by omega)]; exact l1
          have oV' : OwnAt kV u9 1 (i + 1) ((List.range (i + 1)).map fun j => I (sizeN (contents cs).length j)) := by
            rw [List.range_succ, List.map_append]
            have e := hsi i hi
            rw [e] at oV
            exact oV
          have hsub : ∀ j, j < E.next → (j = k5.next ∨ j = k8.next ∨ u8 = some j) → (j = k5.next ∨ j = k8.next) ∨ j = h4.next + 1 := by
            rintro j hj (e | e | e)
            · exact .inl (.inl e)
            · exact .inl (.inr e)
            · have := i4 _ e
              omega
          refine ⟨l2, u9, gV7, gV8, ⟨fun y hy => oV'.use y hy, oV'.non, oV'.len, oV'.sc⟩, nV, ?_⟩
          refine SameB.of ?_ ?_
          · refine SameB.less (b := h4.next + 1) (((((s.toB.mono (T := fun j => (j = k5.next ∨ j = k8.next) ∨ j = h4.next + 1) (fun j e => .inl e)).trans bq (fun j hj e => .inr e)).trans s1R.toB (fun j hj e => .inl e)).trans sRV.toB (fun j hj e => hsub j hj e)).trans (sameB_setL kV (h4.next + 1) k q.marks) (fun j hj e => .inr e)) ?_ ?_
            · rw [setL_loops, if_pos rfl]; exact lE.symm
            · show kV.blks.get _ = _
              rw [sRV.get (h4.next + 1) (by omega) hno9, s1R.get (h4.next + 1) (by omega) (by omega), bl1, s.get (h4.next + 1) (by omega) (by omega)]
          · rw [setL_marks, s.marks]) (h := E) ⟨none, b7, b8, OwnAt.nil _ _, fun y hy => (by cases hy), Same.refl _ _⟩
    rw [List.take_length] at gX7
    have d2 : 2 ≤ cs.length := by omega
    rw [if_neg (by omega)] at gX7
    have lX : hX.loops.get (h4.next + 1) = some k := by rw [sX.loops (h4.next + 1) (by omega) (by omega)]; exact lE
    refine ⟨vv, hX, FX, lX, ?_⟩
    have xX := sX.next
    have bX : SameB hX (hX.setL (h4.next + 1) { k with st := 3 } hX.marks) (fun j => j = h4.next + 1) := sameB_setL _ _ _ _
    have blX : ∀ j, (hX.setL (h4.next + 1) { k with st := 3 } hX.marks).blks.get j = hX.blks.get j := fun j => rfl
    have xY : (hX.setL (h4.next + 1) { k with st := 3 } hX.marks).next = hX.next := rfl
    simp only [cwf_seq, andThen_normal, blockQ_normal]
    generalize hX.setL (h4.next + 1) { k with st := 3 } hX.marks = Y at bX blX xY
    have y1 : Y.blks.get h.next = some ⟨[.pointer (some ⟨bm, 0, none⟩)], 1, 1, true, false⟩ := by rw [blX, sX.get h.next (by omega) (by omega)]; exact b1
    have y2 : Y.blks.get k1.next = some ⟨[I a], 1, 1, true, false⟩ := by rw [blX, sX.get k1.next (by omega) (by omega)]; exact b2
    have y3 : Y.blks.get k2.next = some ⟨[I 0, I 0], 2, 2, true, false⟩ := by rw [blX, sX.get k2.next (by omega) (by omega)]; exact b3
    have y4 : Y.blks.get k3.next = some ⟨[.bool false], 1, 1, true, false⟩ := by rw [blX, sX.get k3.next (by omega) (by omega)]; exact b4
    have y6 : Y.blks.get k4.next = some ⟨[I (cs.length : Int)], 1, 1, true, false⟩ := by rw [blX, sX.get k4.next (by omega) (by omega)]; exact b6
    have y7 : Y.blks.get k5.next = some ⟨[I ((contents cs).length : Int), I (firsts cs)], 2, 2, true, false⟩ := by rw [blX]; exact gX7
    have y8 : Y.blks.get k8.next = some ⟨[ownSl uX cs.length], 1, 1, true, false⟩ := by rw [blX]; exact gX8
    have oY : OwnAt Y uX 1 cs.length ((List.range cs.length).map fun j => I (sizeN (contents cs).length j)) := ⟨fun y hy => by
      obtain ⟨z1, z2, z3⟩ := oX.use y hy
      exact ⟨by rw [blX]; exact z1, by omega, z3⟩, oX.non, oX.len, oX.sc⟩
    have mY : MemAt Y bm um C z c o r := (memk hX sX).sameB bX (fun e => by omega) (fun y hy e => by have := huml y hy; omega)
    have SY : SameB h Y (fun _ => False) := (T0.trans sX.toB (fun j hj e => by omega)).trans bX (fun j hj e => by omega)
    have xSY := SY.next
    obtain ⟨yX, rfl⟩ : ∃ y, uX = some y := by
      cases uX with
      | none => have := oX.non rfl; omega
      | some y => exact ⟨y, rfl⟩
    have rY := oY.rd
    have FA : ∀ (j : Nat) (x : Int), j ≤ 4 → at0 C (a + j) = x → Fact P 14 [.pointer (some ⟨bm, 0, none⟩), I ((a + j : Nat) : Int)] Y (I x) Y := by
      intro j x hj hx
      obtain ⟨_, _, F, e, rfl⟩ := at_spec hT V mY (a + j) (by omega)
      rw [hx] at e; subst e; exact F
    have FA1 := FA 1 ((contents cs).length : Int) (by omega) (by rw [p1, esz])
    have FA2 := FA 2 0 (by omega) (by rw [p2, esh])
    have FA3 := FA 3 0 (by omega) (by rw [p3, ech])
    have FA4 := FA 4 0 (by omega) (by rw [p4, esm])
    have F71 := Nu.deg (contents cs).length n120 Y
    rw [← hd] at F71
    obtain ⟨CR, hcr, g71, gA1, gA2, gA3, gA4⟩ : ∃ CR : CallF, CfOk P CR ∧ CR (.fn 151) [I ((contents cs).length : Nat)] Y = some (I (cs.length : Nat), Y) ∧ CR (.fn 14) [.pointer (some ⟨bm, 0, none⟩), I ((a + 1 : Nat) : Int)] Y = some (I ((contents cs).length : Nat), Y) ∧ CR (.fn 14) [.pointer (some ⟨bm, 0, none⟩), I ((a + 2 : Nat) : Int)] Y = some (I 0, Y) ∧ CR (.fn 14) [.pointer (some ⟨bm, 0, none⟩), I ((a + 3 : Nat) : Int)] Y = some (I 0, Y) ∧ CR (.fn 14) [.pointer (some ⟨bm, 0, none⟩), I ((a + 4 : Nat) : Int)] Y = some (I 0, Y) :=
      ⟨cfOf 151 _ Y _ Y (cfOf 14 _ Y _ Y (cfOf 14 _ Y _ Y (cfOf 14 _ Y _ Y (cfOf 14 _ Y _ Y cf00)))), cfOf_ok F71 (cfOf_ok FA1 (cfOf_ok FA2 (cfOf_ok FA3 (cfOf_ok FA4 cf00_ok)))), cfOf_eq, by rw [cfOf_ne (by decide)]; exact cfOf_eq, by rw [cfOf_ne (by decide), cfOf_neA (by simp)]; exact cfOf_eq, by rw [cfOf_ne (by decide), cfOf_neA (by simp), cfOf_neA (by simp)]; exact cfOf_eq, by rw [cfOf_ne (by decide), cfOf_neA (by simp), cfOf_neA (by simp), cfOf_neA (by simp)]; exact cfOf_eq⟩
    have a1 : wrapF .i64 ((a : Int) + 1) = ((a + 1 : Nat) : Int) := by rw [wrapI] <;> omega
    have a2 : wrapF .i64 ((a : Int) + 2) = ((a + 2 : Nat) : Int) := by rw [wrapI] <;> omega
    have a3 : wrapF .i64 ((a : Int) + 3) = ((a + 3 : Nat) : Int) := by rw [wrapI] <;> omega
    have a4 : wrapF .i64 ((a : Int) + 4) = ((a + 4 : Nat) : Int) := by rw [wrapI] <;> omega
    have vp : veq (.pointer (some ⟨bm, 0, none⟩)) (.pointer (some ⟨bm, 0, none⟩)) = true := by simp [veq, veq1]
    have i1 : Y.rd h.next 0 = some (.pointer (some ⟨bm, 0, none⟩)) := rd_of y1
    have i2 : Y.rd k1.next 0 = some (I a) := rd_of y2
    have i6 : Y.rd k4.next 0 = some (I (cs.length : Int)) := rd_of y6
    have i7 : Y.rd k5.next 0 = some (I ((contents cs).length : Int)) := rd_of y7
    have i8 : Y.rd k8.next 0 = some (ownSl (some yX) cs.length) := rd_of y8
    have cd1 : ((cs.length : Int) != (cs.length : Int)) = false := by simp
    have cd2 : (((contents cs).length : Int) != ((contents cs).length : Int)) = false := by simp
    have cd3 : ((0 : Int) != 0) = false := rfl
    have w3 := st2_agg (wrs2_of (u := I ((contents cs).length : Int)) (v := I (firsts cs)) y3 rfl rfl)
    have s3' : Same Y (Y.setB k2.next ⟨[I ((contents cs).length : Int), I (firsts cs)], 2, 2, true, false⟩) (fun j => j = k2.next) := Same.setB rfl
    have z3 : (Y.setB k2.next ⟨[I ((contents cs).length : Int), I (firsts cs)], 2, 2, true, false⟩).blks.get k2.next = some ⟨[I ((contents cs).length : Int), I (firsts cs)], 2, 2, true, false⟩ := by rw [setB_get, if_pos rfl]
    generalize Y.setB k2.next ⟨[I ((contents cs).length : Int), I (firsts cs)], 2, 2, true, false⟩ = Z1 at w3 s3' z3
    have z4 : Z1.blks.get k3.next = some ⟨[.bool false], 1, 1, true, false⟩ := by rw [s3'.get k3.next (by omega) (by omega)]; exact y4
    have w4 : Z1.wrs k3.next 0 [.bool true] = some (Z1.setB k3.next ⟨[.bool true], 1, 1, true, false⟩) := wrs1_of z4 rfl (by simp) rfl
    have s4' : Same Z1 (Z1.setB k3.next ⟨[.bool true], 1, 1, true, false⟩) (fun j => j = k3.next) := Same.setB rfl
    have z5 : (Z1.setB k3.next ⟨[.bool true], 1, 1, true, false⟩).blks.get k3.next = some ⟨[.bool true], 1, 1, true, false⟩ := by rw [setB_get, if_pos rfl]
    generalize Z1.setB k3.next ⟨[.bool true], 1, 1, true, false⟩ = Z2 at w4 s4' z5
    have xZ1 := s3'.next
    have e3 : Z2.rds k2.next 0 2 = some [I ((contents cs).length : Int), I (firsts cs)] := rds2_of (by rw [s4'.get k2.next (by omega) (by omega)]; exact z3)
    have e4 : Z2.rd k3.next 0 = some (.bool true) := rd_of z5
    have e7 := ldN_of (rds2_of y7)
    have SZ : SameB h Z2 (fun _ => False) := (SY.trans s3'.toB (fun j hj e => by omega)).trans s4'.toB (fun j hj e => by omega)
    have hfin := SZ.close
    refine cwf_quiet CR hcr ?_
    simp only [cwf_seq, cwf_ops, c_false, cwf_skip, andThen_normal, o_r, optQ_some, opt2_some, pop, popQ, rop_load1, ldV_ptr, ev, evs, putA, look_put, isB_false, abinF_eq, abin, Nat.add_zero, decide_true, cond_true, cond_false, ite_true, ite_false, Bool.not_false, Nat.reduceEqDiff, true_and, q_nil, q_p, q_r, q_call, q_on, bq_eq, bqv_eq, bq2_eq, veq_int, vp, t2, t3, t6, t7, t8, i1, i2, i6, i7, g71, gA1, gA2, gA3, gA4, a1, a2, a3, a4, cd1, cd2, cd3]
    simp only [cwf_block, cwf_loop, andThen_normal, owf_nil, o_p, bo_eq, optQ_some, pop, popQ, ev, putA, look_put, cond_false, ite_true, ite_false, Nat.reduceEqDiff, i8, ownSl, Option.map_some]
    refine cw_loop (fun k ts h' => ∃ i : Nat, k = cs.length - i ∧ i ≤ cs.length ∧ h' = Y ∧ look ts 4 = .pointer (some ⟨k2.next, 0, none⟩) ∧ look ts 5 = .pointer (some ⟨k3.next, 0, none⟩) ∧ look ts 7 = .pointer (some ⟨k5.next, 0, none⟩) ∧ look ts 110 = .slice (some ⟨yX, 0, none⟩) cs.length cs.length ∧ look ts 111 = I cs.length ∧ look ts 112 = I i) ?_ (n := cs.length) ⟨0, rfl, Nat.zero_le _, rfl, by simp only [look_put, ite_false, Nat.reduceEqDiff, t4], by simp only [look_put, ite_false, Nat.reduceEqDiff, t5], by simp only [look_put, ite_false, Nat.reduceEqDiff, t7], by simp only [look_put, ite_true, ite_false, Nat.reduceEqDiff], by simp only [look_put, ite_true, ite_false, Nat.reduceEqDiff], by simp only [look_put, Int.cast_ofNat_Int, ite_true, ite_false, Nat.reduceEqDiff] <;> rfl⟩
    rintro k ts h' ⟨i, rfl, i2, rfl, t4, t5, t7, t110, t111, t112⟩
    refine cwf_cw ?_
    by_cases hi : i < cs.length
    · have ci : ((i : Int) < cs.length) = True := by simp [hi]
      have wi : wrapF .i64 ((i : Int) + 1) = ((i + 1 : Nat) : Int) := by rw [wrapI] <;> omega
      have rk : h'.rd yX i = some (I (sizeN (contents cs).length i)) := by
        have := rY.rd (i := i) (by omega)
        rw [Nat.zero_add] at this
        rw [this]; simp [hi]
      have Fs := Nu.siz (contents cs).length i n2 n120 (by omega) h'
      have ce : ((sizeN (contents cs).length i : Int) != (sizeN (contents cs).length i : Int)) = false := by simp
      simp only [cwf_seq, cwf_ops, c_true, cwf_skip, cwf_block, andThen_normal, owf_nil, o_p, o_r, owf_call, bo_eq, optQ_some, pop, popQ, rop_load1, ldV_ptr, ev, evs, putA, look_put, isB_true, abinF_eq, abin, Int.toNat_natCast, Int.natCast_nonneg, Nat.mul_one, Nat.add_zero, inB_eq, decide_true, cond_true, ite_true, ite_false, Bool.and_true, Nat.reduceEqDiff, Nat.zero_add, t7, t110, t111, t112, ci, rk, i7]
      refine ⟨_, _, Fs, ?_⟩
      simp only [cwf_ops, c_false, cwf_skip, andThen_normal, blockQ_normal, roundQ_normal, owf_nil, o_p, behind_eq, bo_eq, optQ_some, pop, popQ, ev, putA, look_put, isB_false, abinF_eq, abin, decide_true, cond_true, ite_true, ite_false, Bool.not_false, Nat.reduceEqDiff, true_and, t4, t5, t7, t110, t111, t112, ce, wi]
      exact ⟨cs.length - (i + 1), by omega, i + 1, rfl, by omega, rfl⟩
    · have ci : ((i : Int) < cs.length) = False := by simp; omega
      simp only [cwf_seq, cwf_ops, cwf_ret, c_false, cwf_exit, andThen_normal, andThen_exit, blockQ_exit, roundQ_exit, fnQ_ret, owf_nil, o_p, o_r, o_e, behind_eq, bo_eq, optQ_some, opt2_some, pop, popQ, ev, putA, look_put, isB_false, abinF_eq, abin, resAll, resA, mkRes2, eop_store1, st1, scalar_bool, decide_true, decide_false, cond_true, ite_true, ite_false, Bool.not_false, Nat.reduceEqDiff, Option.some.injEq, exists_eq_left', true_and, rop_loadN, t4, t5, t7, t111, t112, ci, e7, eop_store2, w3, w4, e3, e4]
      exact hfin

theorem ideal_spec (H : Has tab) (V5 : HasV5 tab) (V8 : HasV8 tab) (Nu : Num P) {bm : Nat} {um : Option Nat} {C : List Int} {z c o r : Int} (hC : C.length ≤ 65536) : ∀ t : Tr, IdlP P bm um C z c o r t := by
  intro t
  induction t using Tr.ind with
  | e a =>
    intro h m hok _
    refine fspec_cwf hT V8.v79 rfl ?_
    have s1 : Same h (h.new ⟨[I 0, I 0], 2, 2, true, false⟩) (fun _ => False) := Same.new
    have g1 : (h.new ⟨[I 0, I 0], 2, 2, true, false⟩).blks.get h.next = some ⟨[I 0, I 0], 2, 2, true, false⟩ := by rw [new_get, if_pos rfl]
    have x1 : (h.new ⟨[I 0, I 0], 2, 2, true, false⟩).next = h.next + 1 := rfl
    generalize hh1 : h.new ⟨[I 0, I 0], 2, 2, true, false⟩ = h1 at s1 g1 x1
    obtain ⟨_, h1, F1, rfl, rfl⟩ := refat_spec hT V H h1 a 1 hok.1 (by have := hok.2; omega) (by omega) (by omega)
    obtain ⟨_, h1, F2, rfl, rfl⟩ := kind_spec hT V H h1 a 1 hok.1 (by have := hok.2; omega) (by omega) (by omega)
    have c1 : ((1 : Int) == 1) = true := rfl
    have s2 : Same h1 (h1.setB h.next ⟨[I 0, I 0], 2, 2, true, false⟩) (fun j => j = h.next) := Same.setB rfl
    have w2 := st2_agg (wrs2_of (u := I 0) (v := I 0) g1 rfl rfl)
    have g2 : (h1.setB h.next ⟨[I 0, I 0], 2, 2, true, false⟩).blks.get h.next = some ⟨[I 0, I 0], 2, 2, true, false⟩ := by rw [setB_get, if_pos rfl]
    generalize h1.setB h.next ⟨[I 0, I 0], 2, 2, true, false⟩ = h2 at s2 w2 g2
    have r2 := rds2_of g2
    simp only [af81, cwf_seq, cwf_ops, andThen_normal, owf_nil, o_p, o_e, owf_call, behind_eq, bo_eq, optQ_some, opt2_some, pop, popQ, ev, evs, putA, putArgs, look_put, List.length_cons, List.length_nil, ite_true, ite_false, Nat.reduceEqDiff, Nat.reduceAdd, Nat.zero_add, eop_alloc, List.length_cons, List.length_nil, hh1]
    refine ⟨_, _, F1, ?_⟩
    simp only [cwf_seq, cwf_ops, andThen_normal, owf_nil, o_p, owf_call, behind_eq, bo_eq, optQ_some, pop, popQ, ev, evs, putA, look_put, ite_true, ite_false, Nat.reduceEqDiff]
    refine ⟨_, _, F2, ?_⟩
    simp only [cwf_seq, cwf_ops, cwf_ret, c_true, cwf_block, andThen_normal, andThen_ret, blockQ_ret, fnQ_ret, owf_nil, o_p, o_e, behind_eq, bo_eq, optQ_some, opt2_some, pop, popQ, ev, putA, look_put, isB_true, abinF_eq, abin, resAll, resA, mkRes2, evP_nil, fillA_nil, Int.cast_ofNat_Int, decide_true, cond_true, ite_true, ite_false, Nat.reduceEqDiff, Option.some.injEq, exists_eq_left', c1, eop_store2, w2, r2]
    have sf : Same h h2 (fun _ => False) := s1.trans s2 (fun j hj e => by omega)
    rw [tail_marks h h2 sf.marks]
    exact ⟨rfl, sf⟩
  | l a k v =>
    intro h m hok _
    refine fspec_cwf hT V8.v79 rfl ?_
    obtain ⟨q1, q2, q3, q4⟩ := hok
    have s1 : Same h (h.new ⟨[I 0, I 0], 2, 2, true, false⟩) (fun _ => False) := Same.new
    have g1 : (h.new ⟨[I 0, I 0], 2, 2, true, false⟩).blks.get h.next = some ⟨[I 0, I 0], 2, 2, true, false⟩ := by rw [new_get, if_pos rfl]
    have x1 : (h.new ⟨[I 0, I 0], 2, 2, true, false⟩).next = h.next + 1 := rfl
    generalize hh1 : h.new ⟨[I 0, I 0], 2, 2, true, false⟩ = h1 at s1 g1 x1
    obtain ⟨_, h1, F1, rfl, rfl⟩ := refat_spec hT V H h1 a 2 q1 (by omega) (by omega) (by omega)
    obtain ⟨_, h1, F2, rfl, rfl⟩ := kind_spec hT V H h1 a 2 q1 (by omega) (by omega) (by omega)
    have F3 : Fact P 14 [.pointer (some ⟨bm, 0, none⟩), I a] h1 (I k) h1 := by
      obtain ⟨_, _, F, e, rfl⟩ := at_spec hT V (m.same s1 (fun x => x) (fun _ _ x => x)) a (by omega)
      rw [q3] at e; subst e; exact F
    have wz : wrapF .i64 ((a : Int) + 0) = (a : Int) := by rw [wrapI] <;> omega
    have c1 : ((2 : Int) == 1) = false := rfl
    have c2 : ((2 : Int) == 2) = true := rfl
    have s2 : Same h1 (h1.setB h.next ⟨[I 1, I k], 2, 2, true, false⟩) (fun j => j = h.next) := Same.setB rfl
    have w2 := st2_agg (wrs2_of (u := I 1) (v := I k) g1 rfl rfl)
    have g2 : (h1.setB h.next ⟨[I 1, I k], 2, 2, true, false⟩).blks.get h.next = some ⟨[I 1, I k], 2, 2, true, false⟩ := by rw [setB_get, if_pos rfl]
    generalize h1.setB h.next ⟨[I 1, I k], 2, 2, true, false⟩ = h2 at s2 w2 g2
    have r2 := rds2_of g2
    simp only [af81, cwf_seq, cwf_ops, andThen_normal, owf_nil, o_p, o_e, owf_call, behind_eq, bo_eq, optQ_some, opt2_some, pop, popQ, ev, evs, putA, putArgs, look_put, List.length_cons, List.length_nil, ite_true, ite_false, Nat.reduceEqDiff, Nat.reduceAdd, Nat.zero_add, eop_alloc, List.length_cons, List.length_nil, hh1]
    refine ⟨_, _, F1, ?_⟩
    simp only [cwf_seq, cwf_ops, andThen_normal, owf_nil, o_p, owf_call, behind_eq, bo_eq, optQ_some, pop, popQ, ev, evs, putA, look_put, ite_true, ite_false, Nat.reduceEqDiff]
    refine ⟨_, _, F2, ?_⟩
    simp only [cwf_seq, cwf_ops, c_true, c_false, cwf_block, andThen_normal, owf_nil, o_p, owf_call, behind_eq, bo_eq, optQ_some, pop, popQ, ev, evs, putA, look_put, isB_true, isB_false, abinF_eq, abin, Int.cast_ofNat_Int, decide_true, cond_true, ite_true, ite_false, Bool.not_false, Nat.reduceEqDiff, c1, c2, wz]
    refine ⟨_, _, F3, ?_⟩
    simp only [cwf_ret, andThen_normal, andThen_ret, blockQ_ret, fnQ_ret, owf_nil, o_p, o_e, behind_eq, bo_eq, optQ_some, opt2_some, pop, popQ, ev, putA, look_put, resAll, resA, mkRes2, evP_nil, evP_cons, fillA_nil, fillA_one, List.length_cons, List.length_nil, List.set_cons_zero, List.set_cons_succ, Nat.reduceLT, Nat.lt_add_one, scalar_int, ite_true, ite_false, Nat.reduceEqDiff, Nat.reduceAdd, Nat.zero_add, Option.some.injEq, exists_eq_left', eop_store2, w2, r2]
    have sf : Same h h2 (fun _ => False) := s1.trans s2 (fun j hj e => by omega)
    rw [tail_marks h h2 sf.marks]
    exact ⟨rfl, sf⟩
  | i a sz sh ch sm ks cs ih =>
    intro h m hok hid
    refine fspec_cwf hT V8.v79 rfl ?_
    have s1 : Same h (h.new ⟨[I 0, I 0], 2, 2, true, false⟩) (fun _ => False) := Same.new
    have g1 : (h.new ⟨[I 0, I 0], 2, 2, true, false⟩).blks.get h.next = some ⟨[I 0, I 0], 2, 2, true, false⟩ := by rw [new_get, if_pos rfl]
    have x1 : (h.new ⟨[I 0, I 0], 2, 2, true, false⟩).next = h.next + 1 := rfl
    generalize hh1 : h.new ⟨[I 0, I 0], 2, 2, true, false⟩ = h1 at s1 g1 x1
    have qa := hok.1.1
    have qb := hok.1.2.1
    obtain ⟨_, h1, F1, rfl, rfl⟩ := refat_spec hT V H h1 a 3 qa (by omega) (by omega) (by omega)
    obtain ⟨_, h1, F2, rfl, rfl⟩ := kind_spec hT V H h1 a 3 qa (by omega) (by omega) (by omega)
    obtain ⟨_, h2, F3, rfl, s2⟩ := idealInner_spec hT V H V5 V8 Nu hC ih (m.same s1 (fun x => x) (fun _ _ x => x)) hok hid
    have x2 := s2.next
    have c1 : ((3 : Int) == 1) = false := rfl
    have c2 : ((3 : Int) == 2) = false := rfl
    have c3 : ((3 : Int) == 3) = true := rfl
    have g2 : h2.blks.get h.next = some ⟨[I 0, I 0], 2, 2, true, false⟩ := by rw [s2.get h.next (by omega) (fun x => x)]; exact g1
    have w3 := st2_agg (wrs2_of (u := I ((contents cs).length : Int)) (v := I (firsts cs)) g2 rfl rfl)
    have s3 : Same h2 (h2.setB h.next ⟨[I ((contents cs).length : Int), I (firsts cs)], 2, 2, true, false⟩) (fun j => j = h.next) := Same.setB rfl
    have g3 : (h2.setB h.next ⟨[I ((contents cs).length : Int), I (firsts cs)], 2, 2, true, false⟩).blks.get h.next = some ⟨[I ((contents cs).length : Int), I (firsts cs)], 2, 2, true, false⟩ := by rw [setB_get, if_pos rfl]
    generalize h2.setB h.next ⟨[I ((contents cs).length : Int), I (firsts cs)], 2, 2, true, false⟩ = h3 at w3 s3 g3
    have r3 := rds2_of g3
    have ew : (Tr.inner a sz sh ch sm ks cs).word = (a : Int) * 8 + ((3 : Nat) : Int) := rfl
    have sf : Same h h3 (fun _ => False) := (s1.trans s2 (fun _ _ x => x)).trans s3 (fun j hj e => by omega)
    rw [ew]
    simp only [af81, cwf_seq, cwf_ops, andThen_normal, owf_nil, o_p, o_e, owf_call, behind_eq, bo_eq, optQ_some, opt2_some, pop, popQ, ev, evs, putA, putArgs, look_put, List.length_cons, List.length_nil, Int.cast_ofNat_Int, ite_true, ite_false, Nat.reduceEqDiff, Nat.reduceAdd, Nat.zero_add, eop_alloc, List.length_cons, List.length_nil, hh1]
    refine ⟨_, _, F1, ?_⟩
    simp only [cwf_seq, cwf_ops, andThen_normal, owf_nil, o_p, owf_call, behind_eq, bo_eq, optQ_some, pop, popQ, ev, evs, putA, look_put, ite_true, ite_false, Nat.reduceEqDiff]
    refine ⟨_, _, F2, ?_⟩
    simp only [cwf_seq, cwf_ops, c_true, c_false, cwf_block, andThen_normal, owf_nil, o_p, owf_call, behind_eq, bo_eq, optQ_some, pop, popQ, ev, evs, putA, look_put, isB_true, isB_false, abinF_eq, abin, Int.cast_ofNat_Int, decide_true, cond_true, ite_true, ite_false, Bool.not_false, Nat.reduceEqDiff, c1, c2, c3]
    refine ⟨_, _, F3, ?_⟩
    simp only [cwf_ret, andThen_normal, andThen_ret, blockQ_ret, fnQ_ret, owf_nil, o_p, o_e, behind_eq, bo_eq, optQ_some, opt2_some, pop, popQ, ev, putA, look_put, resAll, resA, mkRes2, ite_true, ite_false, Nat.reduceEqDiff, Option.some.injEq, exists_eq_left', List.getElem?_cons_zero, List.getElem?_cons_succ, eop_store2, w3, r3]
    rw [tail_marks h h3 sf.marks]
    exact ⟨rfl, sf⟩

theorem ideal1_spec (H : Has tab) (V2 : HasV2 tab) (V3 : HasV3 tab) (V4 : HasV4 tab) (V5 : HasV5 tab) (V6 : HasV6 tab) (V8 : HasV8 tab) (Nu : Num P) {bm : Nat} {um : Option Nat} {C : List Int} {z c o r : Int} {t : Tr} {h : Heap} (m : MemAt h bm um C z c o r) (R : Rooted C t) (hid : t.idl) : FSpec P 26 [.pointer (some ⟨bm, 0, none⟩), I t.word] h fun v h' => v = .bool true ∧ Same h h' (fun _ => False) := by
  refine fspec_cwf hT V8.v45 rfl ?_
  obtain ⟨_, h1, F1, bt, ut, us, rfl, w, _, s1⟩ := survey_spec hT V H V2 V3 V4 m R
  obtain ⟨_, h2, F2, rfl, s2⟩ := has_spec hT V V6 w (by have := R.few; simp; omega) (x := t.word) ⟨((6 : Int), t.word), by simp, rfl⟩
  have s02 := s1.trans s2 (fun _ _ x => x)
  have m2 := m.same s02 (fun x => x) (fun _ _ x => x)
  obtain ⟨_, h3, F3, rfl, s3⟩ := ideal_spec hT V H V5 V8 Nu R.len.2 t h2 m2 R.ok hid
  have s4 : Same h3 (h3.new ⟨[I 0, I 0], 2, 2, true, false⟩) (fun _ => False) := Same.new
  have g4 : (h3.new ⟨[I 0, I 0], 2, 2, true, false⟩).blks.get h3.next = some ⟨[I 0, I 0], 2, 2, true, false⟩ := by rw [new_get, if_pos rfl]
  have x4 : (h3.new ⟨[I 0, I 0], 2, 2, true, false⟩).next = h3.next + 1 := rfl
  generalize hh4 : h3.new ⟨[I 0, I 0], 2, 2, true, false⟩ = h4 at s4 g4 x4
  have w5 := st2_agg (wrs2_of (u := I (t.content.length : Int)) (v := I t.first) g4 rfl rfl)
  have s5 : Same h4 (h4.setB h3.next ⟨[I (t.content.length : Int), I t.first], 2, 2, true, false⟩) (fun j => j = h3.next) := Same.setB rfl
  generalize h4.setB h3.next ⟨[I (t.content.length : Int), I t.first], 2, 2, true, false⟩ = h5 at w5 s5
  have sf : Same h h5 (fun _ => False) := ((s02.trans s3 (fun _ _ x => x)).trans s4 (fun _ _ x => x)).trans s5 (fun j hj e => by have := s02.next; have := s3.next; omega)
  simp only [af26, cwf_seq, cwf_ops, andThen_normal, owf_nil, o_p, owf_call, bo_eq, optQ_some, pop, popQ, ev, evs, putA, putArgs, look_put, ite_true, ite_false, Nat.reduceEqDiff, Nat.zero_add]
  refine ⟨_, _, F1, ?_⟩
  simp only [cwf_seq, cwf_ops, andThen_normal, owf_nil, o_p, owf_call, o_on, behind_eq, bo_eq, optQ_some, pop, popQ, ev, evs, putA, look_put, isB_false, ite_true, ite_false, Bool.not_true, Bool.not_false, Nat.reduceEqDiff, List.getElem?_cons_zero, List.getElem?_cons_succ]
  refine ⟨_, _, F2, ?_⟩
  simp only [cwf_seq, cwf_ops, c_false, cwf_skip, andThen_normal, owf_nil, o_p, owf_call, o_on, behind_eq, bo_eq, optQ_some, pop, popQ, ev, evs, putA, look_put, isB_false, cond_false, ite_true, ite_false, Bool.not_true, Bool.not_false, Nat.reduceEqDiff]
  refine ⟨_, _, F3, ?_⟩
  simp only [cwf_seq, cwf_ops, cwf_ret, andThen_normal, fnQ_ret, owf_nil, o_p, o_e, behind_eq, bo_eq, optQ_some, opt2_some, pop, popQ, ev, putA, look_put, resAll, resA, mkRes1, List.length_cons, List.length_nil, ite_true, ite_false, Nat.reduceEqDiff, Nat.reduceAdd, Nat.zero_add, Option.some.injEq, exists_eq_left', true_and, List.getElem?_cons_zero, List.getElem?_cons_succ, eop_alloc, List.length_cons, List.length_nil, hh4, eop_store2, w5]
  rw [tail_marks h h5 sf.marks]
  exact sf
end
end
end Go.Proofs.YtpeihcpclcibgaaGreat.Ai
/- A memory begun; one cell written. -/
namespace Go.Proofs.YtpeihcpclcibgaaGreat.Ai
open Go.Proofs.YtpeihcpclcibgaaGreat
noncomputable section
open Go.RowKit
structure HasV9 (tab : Nat → Option AFunc) : Prop where
  v42 : tab 63 = some af63
  v43 : tab 65 = some af65
  v73 : tab 113 = some af113

theorem hasV9 : HasV9 tabT.get := ⟨by kernel_rfl, by kernel_rfl, by kernel_rfl⟩

theorem app_nil_src {h : Heap} {x s n cap bytes : Nat} {k : Blk} (hb : h.blks.get x = some k) (hs : k.s = s) (hn : n ≤ cap) (s1 : 1 ≤ s) (b1 : n * bytes ≤ 1099511627776) (b2 : n ≤ 1099511627776) :
    appV h s bytes (.slice (some ⟨x, 0, none⟩) n cap) (.slice none 0 0) = some (.slice (some ⟨x, 0, none⟩) n cap, h) := by
  have hg : (Nat.ble ((n + 0) * bytes) 1099511627776 && Nat.ble (n + 0) 1099511627776 && Nat.ble 1 s && ([] : List Value).all scalar) = true := by
    rw [Nat.add_zero, nat_ble b1, nat_ble b2, nat_ble s1]; rfl
  show appA h s bytes (some ⟨x, 0, none⟩) n cap [] 0 = _
  unfold appA
  rw [hg, cond_true]
  simp only [hb, hs, Nat.beq_refl, Bool.not_true, cond_false, Nat.add_zero, nat_ble hn, cond_true]

section
variable {P : Program} {tab : Nat → Option AFunc} (hT : TabOk P tab)
include hT

theorem concat1_spec (H : Has tab) {h : Heap} {y : Nat} {A C : List Int} {xa oa ca xc oc cc : Nat} (hy : RdAt h y 0 1 3 3 [.slice (some ⟨xa, oa, none⟩) A.length ca, .slice none 0 0, .slice (some ⟨xc, oc, none⟩) C.length cc])
    (ha : RdAt h xa oa 1 A.length ca (A.map I)) (hc : RdAt h xc oc 1 C.length cc (C.map I)) (a0 : A ≠ []) (c0 : C ≠ []) (hl : A.length + C.length < 100000) :
    FSpec P 156 [.slice (some ⟨y, 0, none⟩) 3 3] h fun v h' => v = .slice (some ⟨h.next, 0, none⟩) (A ++ C).length (A ++ C).length ∧ RdAt h' h.next 0 1 (A ++ C).length (A ++ C).length ((A ++ C).map I) ∧ Same h h' (fun _ => False) := by
  refine fspec_cwf hT H.f106 rfl ?_
  have y0 : h.rd y 0 = _ := hy.rd (i := 0) (by omega)
  have y1 : h.rd y 1 = _ := hy.rd (i := 1) (by omega)
  have y2 : h.rd y 2 = _ := hy.rd (i := 2) (by omega)
  have pa := List.length_pos_iff.2 a0
  have pc := List.length_pos_iff.2 c0
  have w1 : wrapF .i64 (0 + (A.length : Int)) = A.length := by rw [wrapI] <;> omega
  have w2 : wrapF .i64 ((A.length : Int)) = A.length := by rw [wrapI] <;> omega
  have w3 : wrapF .i64 ((A.length : Int) + C.length) = ((A.length + C.length : Nat) : Int) := by rw [wrapI] <;> omega
  have w4 : wrapF .i64 1 = 1 := by decide
  have w5 : wrapF .i64 2 = 2 := by decide
  have w6 : wrapF .i64 3 = 3 := by decide
  have n1 : ((A.length : Int) < 0) = False := by simp
  have n3 : (((A.length + C.length : Nat) : Int) < 0) = False := by simp; omega
  obtain ⟨v, h1, F, rfl, rfl⟩ := grow_spec hT H h (n := A.length + C.length) (by omega) (by omega)
  have e0 : (h.new ⟨rep [I 0] (A.length + C.length), A.length + C.length, 1, true, true⟩).blks.get h.next = some ⟨[] ++ rep [I 0] (A.length + C.length), A.length + C.length, 1, true, true⟩ := by rw [new_get]; exact if_pos rfl
  have lr : (rep [I 0] (A.length + C.length)).length = A.length + C.length := by rw [rep_int]; simp
  have s0 : Same h (h.new ⟨rep [I 0] (A.length + C.length), A.length + C.length, 1, true, true⟩) (fun _ => False) := Same.new
  have nx : ∀ j, j < h.next → j = h.next → False := fun j h1 h2 => by omega
  obtain ⟨k1, i1, e1, t1⟩ := app_in' (bytes := 8) (n := 0) (cap := A.length + C.length) e0 (by simp) ((ha.same s0 (fun x => x)).src) (by simp) (by simp [lr]; try omega) (by simp [scalar]) (Nat.le_refl _) (by omega) (by omega) (by omega) (by omega)
  have s1 : Same h k1 (fun _ => False) := s0.trans t1 nx
  have i2 := app_nil_src (bytes := 8) (s := 1) (n := A.length) (cap := A.length + C.length) e1 rfl (by omega) (Nat.le_refl _) (by omega) (by omega)
  obtain ⟨k3, i3, e3, t3⟩ := app_in' (bytes := 8) (n := 0 + A.length) (cap := A.length + C.length) e1 (by simp) ((hc.same s1 (fun x => x)).src) (by simp) (by simp [lr]; try omega) (by simp [scalar]) (Nat.le_refl _) (by omega) (by omega) (by omega) (by omega)
  have s3 : Same h k3 (fun _ => False) := s1.trans t3 nx
  have z0 : (h.new ⟨rep [I 0] (A.length + C.length), A.length + C.length, 1, true, true⟩).rd y 0 = _ := (hy.same s0 (fun x => x)).rd (i := 0) (by omega)
  have z1 : k1.rd y 1 = _ := (hy.same s1 (fun x => x)).rd (i := 1) (by omega)
  have z2 : k1.rd y 2 = _ := (hy.same s1 (fun x => x)).rd (i := 2) (by omega)
  simp only [Nat.zero_add] at i1 i3
  have hL : (A ++ C).length = A.length + C.length := by simp
  simp only [af156, cwf_seq, cwf_ops, cwf_block, cwf_loop, andThen_normal, owf_nil, o_p, bo_eq, optQ_some, pop, popQ, ev, putA, putArgs, look_put, Int.cast_ofNat_Int, cond_false, ite_true, ite_false, Nat.reduceEqDiff]
  refine cw_lw (lw_step ?_)
  simp only [cwf_seq, cwf_ops, c_true, c_false, cwf_skip, cwf_block, andThen_normal, blockQ_normal, lwQ_normal, owf_nil, o_p, o_r, bo_eq, optQ_some, pop, popQ, rop_load1, ldV_ptr, ev, putA, look_put, isB_true, isB_false, abinF_eq, abin, Int.reduceLT, Int.reduceLE, Int.reduceToNat, Nat.mul_one, Nat.add_zero, Int.reduceAdd, Int.cast_ofNat_Int, inB_eq, decide_true, decide_false, cond_true, cond_false, ite_true, ite_false, Bool.and_true, Bool.not_false, Nat.reduceEqDiff, List.getElem?_cons_zero, y0, w1, w4, n1]
  refine lw_step ?_
  simp only [cwf_seq, cwf_ops, c_true, c_false, cwf_skip, cwf_block, andThen_normal, blockQ_normal, lwQ_normal, owf_nil, o_p, o_r, bo_eq, optQ_some, pop, popQ, rop_load1, ldV_ptr, ev, putA, look_put, isB_true, isB_false, abinF_eq, abin, Int.reduceLT, Int.reduceLE, Int.reduceToNat, Nat.mul_one, Int.reduceAdd, Int.cast_ofNat_Int, inB_eq, decide_true, decide_false, cond_true, cond_false, ite_true, ite_false, Bool.and_true, Bool.not_false, Nat.reduceEqDiff, Nat.zero_add, List.getElem?_cons_zero, List.getElem?_cons_succ, y1, w2, w5, n1, Int.add_zero]
  refine lw_step ?_
  simp only [cwf_seq, cwf_ops, c_true, c_false, cwf_skip, cwf_block, andThen_normal, blockQ_normal, lwQ_normal, owf_nil, o_p, o_r, bo_eq, optQ_some, pop, popQ, rop_load1, ldV_ptr, ev, putA, look_put, isB_true, isB_false, abinF_eq, abin, Int.reduceLT, Int.reduceLE, Int.reduceToNat, Nat.mul_one, Int.reduceAdd, Int.cast_ofNat_Int, inB_eq, decide_true, decide_false, cond_true, cond_false, ite_true, ite_false, Bool.and_true, Bool.not_false, Nat.reduceEqDiff, Nat.zero_add, List.getElem?_cons_zero, List.getElem?_cons_succ, y2, w3, w6, n3]
  refine lw_step ?_
  simp only [cwf_seq, cwf_ops, c_false, cwf_exit, andThen_normal, andThen_exit, blockQ_exit, lwQ_exit, owf_nil, o_p, owf_call, bo_eq, optQ_some, pop, popQ, ev, evs, putA, look_put, isB_false, abinF_eq, abin, Int.reduceLT, decide_true, decide_false, cond_true, ite_true, ite_false, Bool.not_false, Nat.reduceEqDiff]
  refine ⟨_, _, F, ?_⟩
  simp only [cwf_seq, cwf_ops, cwf_block, cwf_loop, andThen_normal, owf_nil, o_p, behind_eq, bo_eq, optQ_some, pop, popQ, ev, putA, look_put, Int.cast_ofNat_Int, cond_false, ite_true, ite_false, Nat.reduceEqDiff]
  refine cw_lw (lw_step ?_)
  simp only [cwf_seq, cwf_ops, c_true, cwf_skip, cwf_block, andThen_normal, blockQ_normal, lwQ_normal, owf_nil, o_p, o_r, o_e, behind_eq, bo_eq, optQ_some, opt2_some, pop, popQ, rop_load1, ldV_ptr, ev, putA, look_put, isB_true, abinF_eq, abin, eop_app, Int.reduceLT, Int.reduceLE, Int.reduceToNat, Nat.mul_one, Nat.add_zero, Int.reduceAdd, Int.cast_ofNat_Int, inB_eq, decide_true, cond_true, ite_true, ite_false, Bool.and_true, Nat.reduceEqDiff, List.getElem?_cons_zero, z0, i1, w4]
  refine lw_step ?_
  simp only [cwf_seq, cwf_ops, c_true, cwf_skip, cwf_block, andThen_normal, blockQ_normal, lwQ_normal, owf_nil, o_p, o_r, o_e, behind_eq, bo_eq, optQ_some, opt2_some, pop, popQ, rop_load1, ldV_ptr, ev, putA, look_put, isB_true, abinF_eq, abin, eop_app, Int.reduceLT, Int.reduceLE, Int.reduceToNat, Nat.mul_one, Int.reduceAdd, Int.cast_ofNat_Int, inB_eq, decide_true, cond_true, ite_true, ite_false, Bool.and_true, Nat.reduceEqDiff, Nat.zero_add, List.getElem?_cons_zero, List.getElem?_cons_succ, z1, i2, w5]
  refine lw_step ?_
  simp only [cwf_seq, cwf_ops, c_true, cwf_skip, cwf_block, andThen_normal, blockQ_normal, lwQ_normal, owf_nil, o_p, o_r, o_e, behind_eq, bo_eq, optQ_some, opt2_some, pop, popQ, rop_load1, ldV_ptr, ev, putA, look_put, isB_true, abinF_eq, abin, eop_app, Int.reduceLT, Int.reduceLE, Int.reduceToNat, Nat.mul_one, Int.reduceAdd, Int.cast_ofNat_Int, inB_eq, decide_true, cond_true, ite_true, ite_false, Bool.and_true, Nat.reduceEqDiff, Nat.zero_add, List.getElem?_cons_zero, List.getElem?_cons_succ, z2, i3, w6]
  refine lw_step ?_
  simp only [cwf_seq, cwf_ops, cwf_ret, c_false, cwf_exit, andThen_normal, andThen_exit, blockQ_exit, lwQ_exit, fnQ_ret, owf_nil, o_p, bo_eq, optQ_some, pop, popQ, ev, putA, look_put, isB_false, abinF_eq, abin, resAll, resA, mkRes1, Int.reduceLT, decide_true, decide_false, cond_true, ite_true, ite_false, Bool.not_false, Nat.reduceEqDiff, Option.some.injEq, exists_eq_left']
  rw [tail_marks h k3 s3.marks, hL]
  refine ⟨rfl, ⟨⟨_, e3, rfl, ?_, ?_⟩, Nat.le_refl _, ?_⟩, s3⟩
  · rw [List.drop_zero, List.take_append_of_le_length (by simp)]
    simp only [List.nil_append, List.map_append]
    rw [List.take_of_length_le (by simp)]
  · simp
  · have := t1.next; have := t3.next
    rw [new_next] at *
    omega

theorem inner1_spec (H : Has tab) {h : Heap} {n : Int} {x cap : Nat} {W : List Int} (hw : RdAt h x 0 1 W.length cap (W.map I)) (hl : W.length = 1) :
    FSpec P 109 [I n, .slice none 0 0, .slice (some ⟨x, 0, none⟩) W.length cap] h fun v h' => ∃ x, h.next ≤ x ∧ v = .slice (some ⟨x, 0, none⟩) ([1, n, 0, 0, 0] ++ W).length ([1, n, 0, 0, 0] ++ W).length ∧ RdAt h' x 0 1 ([1, n, 0, 0, 0] ++ W).length ([1, n, 0, 0, 0] ++ W).length (([1, n, 0, 0, 0] ++ W).map I) ∧ Same h h' (fun _ => False) := by
  refine fspec_cwf hT H.f72 rfl ?_
  have w1 : wrapF .i64 1 = 1 := by decide
  have c1 : ((1 : Int) != 1) = false := by simp
  have w0 : W ≠ [] := fun e => by rw [e] at hl; simp at hl
  have r5 : RdAt (h.new ⟨[I 1, I n, I 0, I 0, I 0], 5, 1, true, false⟩) h.next 0 1 5 5 [I 1, I n, I 0, I 0, I 0] := RdAt.fresh h [I 1, I n, I 0, I 0, I 0] 5 1 true false rfl
  have s1 : Same h (h.new ⟨[I 1, I n, I 0, I 0, I 0], 5, 1, true, false⟩) (fun _ => False) := Same.new
  generalize hk1 : h.new ⟨[I 1, I n, I 0, I 0, I 0], 5, 1, true, false⟩ = k1 at r5 s1
  have r3 : RdAt (k1.new ⟨[.slice (some ⟨h.next, 0, none⟩) 5 5, .slice none 0 0, .slice (some ⟨x, 0, none⟩) W.length cap], 3, 1, true, false⟩) k1.next 0 1 3 3 [.slice (some ⟨h.next, 0, none⟩) 5 5, .slice none 0 0, .slice (some ⟨x, 0, none⟩) W.length cap] := RdAt.fresh k1 _ 3 1 true false rfl
  have s2 : Same k1 (k1.new ⟨[.slice (some ⟨h.next, 0, none⟩) 5 5, .slice none 0 0, .slice (some ⟨x, 0, none⟩) W.length cap], 3, 1, true, false⟩) (fun _ => False) := Same.new
  generalize hk2 : k1.new ⟨[.slice (some ⟨h.next, 0, none⟩) 5 5, .slice none 0 0, .slice (some ⟨x, 0, none⟩) W.length cap], 3, 1, true, false⟩ = k2 at r3 s2
  have sA : Same h k2 (fun _ => False) := s1.trans s2 (fun _ _ x => x)
  obtain ⟨v, h3, F, rfl, q2, q3⟩ := concat1_spec hT H (A := [1, n, 0, 0, 0]) (C := W) r3 (r5.same s2 (fun x => x)) (hw.same sA (fun x => x)) (by simp) w0 (by simp; omega)
  have hwl : (W.length : Int) = 1 := by omega
  simp only [af109, cwf_seq, cwf_ops, c_false, cwf_skip, andThen_normal, owf_nil, o_p, o_e, owf_call, behind_eq, bo_eq, optQ_some, opt2_some, pop, popQ, ev, evs, putA, putArgs, look_put, isB_false, abinF_eq, abin, eop_buildS, bldS_some, evP_nil, evP_cons, fillA_nil, fillA_one, List.length_cons, List.length_nil, List.set_cons_zero, List.set_cons_succ, Nat.reduceLT, Nat.lt_add_one, Nat.mul_one, Int.cast_ofNat_Int, scalar_slice, scalar_int, decide_true, cond_true, cond_false, ite_true, ite_false, Bool.not_false, Nat.reduceEqDiff, Nat.reduceAdd, Nat.zero_add, hwl, w1, c1, hk1, hk2, Int.zero_add]
  refine ⟨_, _, F, ?_⟩
  simp only [cwf_ret, andThen_normal, fnQ_ret, owf_nil, o_p, behind_eq, bo_eq, optQ_some, pop, popQ, ev, putA, look_put, resAll, resA, mkRes1, ite_true, ite_false, Nat.reduceEqDiff, Option.some.injEq, exists_eq_left']
  have sB := sA.trans q3 (fun _ _ x => x)
  rw [tail_marks h h3 sB.marks]
  exact ⟨_, Nat.le_trans s1.next s2.next, rfl, q2, sB⟩

theorem begin_spec (H : Has tab) (V9 : HasV9 tab) {h : Heap} {b : Nat} {z c o r : Int} (m : MemAt h b none [] z c o r) (hz7 : 7 ≤ z) (hz : z ≤ 65536) (hc : 0 ≤ c ∧ c < 1000) :
    FSpec P 63 [.pointer (some ⟨b, 0, none⟩)] h fun v h' => v = .bool true ∧ (∃ u', MemAt h' b u' [1, 0, 0, 0, 0, 57, 0] z (c + 2) o r ∧ (∀ x, u' = some x → h.next ≤ x)) ∧ Same h h' (fun j => j = b) := by
  refine fspec_cwf hT V9.v42 rfl ?_
  obtain ⟨_, h, F1, rfl, rfl⟩ := used_spec hT H m
  obtain ⟨_, h, F2, rfl, rfl⟩ := size_spec hT H m
  obtain ⟨_, h, F3, rfl, rfl⟩ := of_spec hT H 1 7 h (by omega) (by omega) (by omega) (by omega)
  have e57 : (7 : Int) * 8 + 1 = 57 := rfl
  rw [e57] at F3
  have s1 : Same h (h.new ⟨[I 57], 1, 1, true, false⟩) (fun _ => False) := Same.new
  have r1 : RdAt (h.new ⟨[I 57], 1, 1, true, false⟩) h.next 0 1 1 1 [I 57] := RdAt.fresh h [I 57] 1 1 true false rfl
  have x1 : (h.new ⟨[I 57], 1, 1, true, false⟩).next = h.next + 1 := rfl
  generalize hh1 : h.new ⟨[I 57], 1, 1, true, false⟩ = h1 at s1 r1 x1
  have m1 := m.same s1 (fun x => x) (fun _ _ x => x)
  obtain ⟨_, h2, F4, ⟨x, hx, rfl, r2, s2⟩⟩ := inner1_spec hT H (n := 0) (W := [57]) r1 rfl
  have m2 := m1.same s2 (fun x => x) (fun _ _ x => x)
  have hbl := m.lt
  obtain ⟨_, h3, F5, rfl, ⟨u3, m3, n3⟩, s3⟩ := make_ok hT H (ws := [1, 0, 0, 0, 0, 57]) m2 r2 (by omega) (by simp) (by simp; omega) hz ⟨by omega, by omega⟩
  have x2 := s2.next
  have x3 := s3.next
  obtain ⟨_, h4, F6, rfl, r4, s4⟩ := empty_spec hT H h3
  have m4 := m3.same s4 (fun x => x) (fun _ _ x => x)
  obtain ⟨_, h5, F7, rfl, ⟨u5, m5, n5⟩, s5⟩ := make_ok hT H (ws := [0]) m4 r4 (by omega) (by simp) (by simp; omega) hz ⟨by omega, by omega⟩
  have x4 := s4.next
  have hu3 : ∀ x, u3 = some x → h.next ≤ x := fun x hx => by
    rcases n3 x hx with e | e
    · cases e
    · omega
  have sf : Same h h5 (fun j => j = b) := ((((s1.mono (fun _ x => x.elim)).trans s2 (fun _ _ x => x.elim)).trans s3 (fun j hj e => by
    rcases e with e | e
    · exact e
    · cases e)).trans s4 (fun _ _ x => x.elim)).trans s5 (fun j hj e => by
      rcases e with e | e
      · exact e
      · have := hu3 _ e; omega)
  have c0 : ((0 : Int) != 0) = false := rfl
  have cz : (z < 7) = False := by simp; omega
  simp only [af63, cwf_seq, cwf_ops, andThen_normal, owf_nil, o_p, owf_call, bo_eq, optQ_some, pop, popQ, ev, evs, putA, putArgs, look_put, ite_true, ite_false, Nat.reduceEqDiff]
  refine ⟨_, _, F1, ?_⟩
  simp only [o_p, owf_call, o_on, behind_eq, bo_eq, optQ_some, pop, popQ, ev, evs, putA, look_put, isB_false, abinF_eq, abin, List.length_nil, Int.cast_ofNat_Int, decide_true, cond_true, ite_true, ite_false, Bool.not_false, Nat.reduceEqDiff, c0]
  refine ⟨_, _, F2, ?_⟩
  simp only [cwf_seq, cwf_ops, c_false, cwf_skip, andThen_normal, owf_nil, o_p, owf_call, o_on, behind_eq, bo_eq, optQ_some, pop, popQ, ev, evs, putA, look_put, isB_false, abinF_eq, abin, decide_true, decide_false, cond_true, cond_false, ite_true, ite_false, Bool.not_false, Nat.reduceEqDiff, cz]
  refine ⟨_, _, F3, ?_⟩
  simp only [o_e, owf_call, behind_eq, opt2_some, ev, evs, putA, look_put, eop_buildS, bldS_some, evP_nil, evP_cons, fillA_nil, fillA_one, List.length_cons, List.length_nil, List.set_cons_zero, Nat.lt_add_one, Nat.mul_one, scalar_int, ite_true, ite_false, Nat.reduceEqDiff, Nat.zero_add, hh1]
  refine ⟨_, _, F4, ?_⟩
  simp only [owf_call, behind_eq, ev, evs, putA, look_put, List.length_cons, List.length_nil, ite_true, ite_false, Nat.reduceEqDiff, Nat.reduceAdd, Nat.zero_add, List.nil_append, List.cons_append]
  refine ⟨_, _, F5, ?_⟩
  simp only [cwf_seq, cwf_ops, andThen_normal, owf_nil, o_p, owf_call, behind_eq, bo_eq, optQ_some, pop, popQ, ev, evs, putA, look_put, List.length_nil, Int.reduceAdd, Int.cast_ofNat_Int, ite_true, ite_false, Nat.reduceEqDiff]
  refine ⟨_, _, F6, ?_⟩
  simp only [owf_call, behind_eq, ev, evs, putA, look_put, ite_true, ite_false, Nat.reduceEqDiff]
  refine ⟨_, _, F7, ?_⟩
  simp only [cwf_seq, cwf_ops, cwf_ret, andThen_normal, fnQ_ret, owf_nil, o_p, behind_eq, bo_eq, optQ_some, pop, popQ, ev, putA, look_put, resAll, resA, mkRes1, List.length_cons, List.length_nil, Int.reduceAdd, Int.cast_ofNat_Int, ite_true, ite_false, Nat.reduceEqDiff, Nat.reduceAdd, Nat.zero_add, Option.some.injEq, exists_eq_left', true_and, List.nil_append]
  rw [tail_marks h h5 sf.marks]
  refine ⟨⟨u5, ?_, fun x hx => ?_⟩, sf⟩
  · have e : c + 1 + 1 = c + 2 := by omega
    rw [e] at m5
    exact m5
  · rcases n5 x hx with e | e
    · exact hu3 x e
    · omega

theorem cell_spec (V9 : HasV9 tab) {h : Heap} {b x : Nat} {C : List Int} {z c o r : Int} (m : MemAt h b (some x) C z c o r) (hc : 0 ≤ c ∧ c < 1000000) {a : Nat} (a1 : 1 ≤ a) (a2 : a ≤ C.length) (hC : C.length ≤ 65536) :
    FSpec P 113 [.pointer (some ⟨b, 0, none⟩), I a] h fun v h' => v = .pointer (some ⟨x, a - 1, none⟩) ∧ MemAt h' b (some x) C z (c + 1) o r ∧ Same h h' (fun j => j = b) := by
  refine fspec_cwf hT V9.v73 rfl ?_
  have wc : wrapF .i64 (c + 1) = c + 1 := wrapI (by omega) (by omega)
  have m1 := m.set z (c + 1) o r
  have s1 : Same h (h.setB b (memBlk (useSl (some x) C) z (c + 1) o r)) (fun j => j = b) := Same.setB rfl
  have w2 := m.wr2 (c + 1)
  generalize h.setB b (memBlk (useSl (some x) C) z (c + 1) o r) = h1 at w2 m1 s1
  have c1 : ((a : Int) < 1) = False := by simp; omega
  have c2 : ((a : Int) > C.length) = False := by simp; omega
  have w : wrapF .i64 ((a : Int) - 1) = ((a - 1 : Nat) : Int) := by rw [wrapI] <;> omega
  have c3 : (((a - 1 : Nat) : Int) < C.length) = True := by simp; omega
  have r0 : h1.rd b 0 = some (.slice (some ⟨x, 0, none⟩) C.length C.length) := m1.rd0
  simp only [af113, cwf_seq, cwf_ops, cwf_ret, c_false, cwf_skip, andThen_normal, fnQ_ret, owf_nil, o_p, o_r, o_e, o_on, behind_eq, bo_eq, optQ_some, opt2_some, pop, popQ, rop_load1, ldV_ptr, ev, putA, putArgs, look_put, isB_false, abinF_eq, abin, resAll, resA, mkRes1, eop_store1, st1, Int.toNat_natCast, Int.natCast_nonneg, Nat.mul_one, Nat.add_zero, scalar_int, inB_eq, decide_true, decide_false, cond_true, cond_false, ite_true, ite_false, Bool.and_true, Bool.not_false, Nat.reduceEqDiff, Nat.zero_add, Option.some.injEq, exists_eq_left', true_and, m.rd2, wc, w2, c1, r0, c2, w, c3]
  rw [tail_marks h h1 s1.marks]
  exact ⟨m1, s1⟩

theorem write_spec (V9 : HasV9 tab) {h : Heap} {b x : Nat} {C : List Int} {z c o r : Int} (m : MemAt h b (some x) C z c o r) (hc : 0 ≤ c ∧ c < 1000000) {a : Nat} (a1 : 1 ≤ a) (a2 : a ≤ C.length) (hC : C.length ≤ 65536) (w : Int) :
    FSpec P 65 [.pointer (some ⟨b, 0, none⟩), I a, I w] h fun _ h' => MemAt h' b (some x) (C.set (a - 1) w) z (c + 1) o r ∧ Same h h' (fun j => j = b ∨ j = x) := by
  refine fspec_cwf hT V9.v43 rfl ?_
  obtain ⟨_, h1, F1, rfl, m1, s1⟩ := cell_spec hT V9 m hc a1 a2 hC
  obtain ⟨q1, q2, q3, q4⟩ := m1.use x rfl
  have w1 : h1.wrs x (a - 1) [I w] = some (h1.setB x (usedBlk (C.set (a - 1) w))) := by
    rw [wrs1_of q1 rfl (by simp [usedBlk]; omega) rfl]
    simp [usedBlk, List.map_set]
  have s2 : Same h1 (h1.setB x (usedBlk (C.set (a - 1) w))) (fun j => j = x) := Same.setB rfl
  have m2 : MemAt (h1.setB x (usedBlk (C.set (a - 1) w))) b (some x) (C.set (a - 1) w) z (c + 1) o r := by
    refine ⟨?_, fun y hy => ?_, (fun e => by cases e), m1.lt⟩
    · rw [setB_get, if_neg (Ne.symm q2), m1.blk]
      simp [useSl]
    · cases hy
      exact ⟨by rw [setB_get, if_pos rfl], q2, q3, fun e => by
        have := congrArg List.length e
        simp only [List.length_set, List.length_nil] at this
        omega⟩
  generalize h1.setB x (usedBlk (C.set (a - 1) w)) = h2 at w1 s2 m2
  have sf : Same h h2 (fun j => j = b ∨ j = x) := (s1.mono (fun _ e => .inl e)).trans s2 (fun _ _ e => .inr e)
  simp only [af65, cwf_seq, cwf_ops, o_p, owf_call, bo_eq, optQ_some, pop, popQ, ev, evs, putA, putArgs, look_put, ite_true, ite_false, Nat.reduceEqDiff, Nat.reduceAdd, Nat.zero_add]
  refine ⟨_, _, F1, ?_⟩
  simp only [cwf_seq, cwf_ops, c_true, andThen_normal, fnQ_normal, owf_nil, o_p, o_e, behind_eq, bo_eq, optQ_some, opt2_some, pop, popQ, ev, putA, look_put, isB_true, resAll, eop_store1, st1, scalar_int, isNilV, Option.isNone_some, cond_true, ite_true, ite_false, Bool.not_false, Nat.reduceEqDiff, Option.some.injEq, exists_eq_left', w1]
  rw [tail_marks h h2 sf.marks]
  exact ⟨m2, sf⟩
end
end
end Go.Proofs.YtpeihcpclcibgaaGreat.Ai
/- The ideal tree of a list, in plain lists and numbers. -/
namespace Go.Proofs.YtpeihcpclcibgaaGreat.Ai
open Go.Proofs.YtpeihcpclcibgaaGreat
noncomputable section
set_option linter.unusedVariables false

mutual
/-- it is the list's ideal tree -/
def Tr.fits : Tr → List Pr → Prop
  | .empty _, l => l = []
  | .leaf _ k v, l => l = [(k, v)]
  | .inner _ sz sh ch sm ks cs, l => (2 ≤ l.length ∧ l.length ≤ 120) ∧ (sz = (l.length : Nat) ∧ sh = 0 ∧ ch = 0 ∧ sm = 0) ∧ ks = keysF l (degN l.length) ∧ cs.length = degN l.length ∧ fitss cs l 0
def fitss : List Tr → List Pr → Nat → Prop
  | [], _, _ => True
  | t :: cs, l, i => t.fits (partL l i) ∧ fitss cs l (i + 1)
end

mutual
/-- the cells that it has -/
def Tr.adrs : Tr → List Nat
  | .empty a => [a]
  | .leaf a _ _ => [a, a + 1]
  | .inner a _ _ _ _ _ cs => List.range' a (2 * cs.length + 4) ++ adrss cs
def adrss : List Tr → List Nat
  | [] => []
  | t :: cs => t.adrs ++ adrss cs
end

theorem fitss_at : ∀ {cs : List Tr} {l : List Pr} {i : Nat}, fitss cs l i → ∀ j (h : j < cs.length), cs[j].fits (partL l (i + j))
  | t :: cs, l, i, ⟨a, b⟩, 0, _ => a
  | t :: cs, l, i, ⟨a, b⟩, j + 1, h => by
    have := fitss_at b j (by simpa using h)
    rw [show i + (j + 1) = i + 1 + j by omega]
    simpa using this
theorem fitss_app : ∀ {a : List Tr} {t : Tr} {l : List Pr} {i : Nat}, fitss a l i → t.fits (partL l (i + a.length)) → fitss (a ++ [t]) l i
  | [], t, l, i, _, h => ⟨by simpa using h, trivial⟩
  | s :: a, t, l, i, ⟨h1, h2⟩, h => ⟨h1, fitss_app h2 (by rw [show i + 1 + a.length = i + (s :: a).length by simp; omega]; exact h)⟩
theorem oks_app {C : List Int} : ∀ {a : List Tr} {t : Tr}, oks C a → t.ok C → oks C (a ++ [t])
  | [], t, _, h => ⟨h, trivial⟩
  | s :: a, t, ⟨h1, h2⟩, h => ⟨h1, oks_app h2 h⟩
theorem adrss_app : ∀ (a b : List Tr), adrss (a ++ b) = adrss a ++ adrss b
  | [], b => by simp [adrss]
  | t :: a, b => by simp [adrss, adrss_app a b]
theorem adrss_mem {i : Nat} : ∀ {cs : List Tr}, i ∈ adrss cs → ∃ c ∈ cs, i ∈ c.adrs
  | [], h => by simp [adrss] at h
  | t :: cs, h => by
    simp only [adrss, List.mem_append] at h
    rcases h with h | h
    · exact ⟨t, by simp, h⟩
    · obtain ⟨c, h1, h2⟩ := adrss_mem h
      exact ⟨c, List.mem_cons_of_mem _ h1, h2⟩

theorem from_top {n : Nat} (h2 : 2 ≤ n) (h : n ≤ 120) : fromN n (degN n) = n := by
  have pn := partN h2 h
  have d2 := pn.deg2
  unfold fromN
  have h1 := Nat.div_add_mod n (degN n)
  have h3 : n % degN n < degN n := Nat.mod_lt _ (by omega)
  rw [Nat.min_eq_right (by omega), Nat.mul_comm]
  omega

theorem fits_content : ∀ (t : Tr) (l : List Pr), t.fits l → t.content = l := by
  intro t
  induction t using Tr.ind with
  | e a => exact fun l h => h.symm
  | l a k v => exact fun l h => h.symm
  | i a sz sh ch sm ks cs ih =>
    intro l h
    obtain ⟨⟨h2, h120⟩, _, _, hd, hf⟩ := h
    have pn := partN h2 h120
    show contents cs = l
    have key : ∀ i, i ≤ cs.length → contents (cs.take i) = l.take (fromN l.length i) := by
      intro i
      induction i with
      | zero => intro _; rw [pn.zero]; simp [contents]
      | succ i ihi =>
        intro hi
        have e := ih cs[i] (List.getElem_mem _) _ (fitss_at hf i (by omega))
        rw [Nat.zero_add] at e
        rw [take_one cs (by omega), contents_app, ihi (by omega), pn.next i (by omega), List.take_add]
        simp only [contents, List.append_nil, e, partL]
    have e := key cs.length (Nat.le_refl _)
    rw [List.take_length, hd, from_top h2 h120, List.take_length] at e
    exact e

theorem part_get {l : List Pr} {i : Nat} (h1 : 1 ≤ sizeN l.length i) : (partL l i)[0]? = l[fromN l.length i]? := by
  simp [partL, List.getElem?_take]
  omega

theorem fits_first : ∀ (t : Tr) (l : List Pr), t.fits l → l ≠ [] → t.first = ((l[0]?).getD (0, 0)).1 := by
  intro t
  induction t using Tr.ind with
  | e a => exact fun l h hne => absurd h hne
  | l a k v => intro l h _; cases h; rfl
  | i a sz sh ch sm ks cs ih =>
    intro l h _
    obtain ⟨⟨h2, h120⟩, _, _, hd, hf⟩ := h
    have pn := partN h2 h120
    have d2 := pn.deg2
    have h1 := pn.one 0 (by omega)
    have e := part_get (l := l) h1
    rw [pn.zero] at e
    have hne : partL l 0 ≠ [] := by
      intro e2
      rw [e2] at e
      simp at e
      rw [e] at h2; simp at h2
    cases cs with
    | nil => simp at hd; omega
    | cons c cs =>
      show c.first = _
      rw [ih c (by simp) _ hf.1 hne, e]

theorem keysF_get (l : List Pr) : ∀ (d i : Nat), i + 1 < d → (keysF l d)[i]? = some ((l[fromN l.length (i + 1)]?).getD (0, 0)).1
  | 0, i, h => by omega
  | 1, i, h => by omega
  | d + 2, i, h => by
    rw [keysF, if_neg (by omega)]
    have hl := keysF_len l (d + 1)
    by_cases c : i + 1 < d + 1
    · rw [List.getElem?_append_left (by omega)]
      exact keysF_get l (d + 1) i c
    · have e : i = d := by omega
      rw [List.getElem?_append_right (by omega), hl, e]
      simp

theorem fits_idl : ∀ (t : Tr) (l : List Pr), t.fits l → t.idl := by
  intro t
  induction t using Tr.ind with
  | e a => exact fun l h => trivial
  | l a k v => exact fun l h => trivial
  | i a sz sh ch sm ks cs ih =>
    intro l h
    have hc : contents cs = l := fits_content (.inner a sz sh ch sm ks cs) l h
    obtain ⟨⟨h2, h120⟩, ⟨e1, e2, e3, e4⟩, hk, hd, hf⟩ := h
    have pn := partN h2 h120
    refine ⟨?_, ?_⟩
    · rw [hc]
      refine ⟨⟨h2, h120⟩, hd, e1, e2, e3, e4, fun i hi => ?_, fun i hi hi2 => ?_⟩
      · have := fitss_at hf i hi
        rw [Nat.zero_add] at this
        rw [fits_content _ _ this, partL_len h2 h120 (by omega)]
      · have hf1 := fitss_at hf (i + 1) hi2
        rw [Nat.zero_add] at hf1
        have h1 := pn.one (i + 1) (by omega)
        have hp := partL_len h2 h120 (i := i + 1) (by omega)
        rw [fits_first _ _ hf1 (by intro e; rw [e] at hp; simp at hp; omega), part_get h1]
        have := keysF_get l (degN l.length) i (by omega)
        rw [← hk, List.getElem?_eq_getElem hi] at this
        exact Option.some.inj this
    · have key : ∀ (cs' : List Tr) (i : Nat), (∀ c ∈ cs', c ∈ cs) → fitss cs' l i → idls cs' := by
        intro cs'
        induction cs' with
        | nil => intro _ _ _; trivial
        | cons c cs' ihc =>
          intro i hm hh
          exact ⟨ih c (hm c (by simp)) _ hh.1, ihc (i + 1) (fun c hc => hm c (List.mem_cons_of_mem _ hc)) hh.2⟩
      exact key cs 0 (fun _ h => h) hf

theorem fits_busy : ∀ (t : Tr) (l : List Pr), t.fits l → t.busy = false := by
  intro t
  induction t using Tr.ind with
  | e a => exact fun l h => rfl
  | l a k v => exact fun l h => rfl
  | i a sz sh ch sm ks cs ih =>
    intro l h
    obtain ⟨⟨h2, h120⟩, ⟨e1, e2, e3, e4⟩, hk, hd, hf⟩ := h
    have key : ∀ (cs' : List Tr) (i : Nat), (∀ c ∈ cs', c ∈ cs) → fitss cs' l i → busys cs' = false := by
      intro cs'
      induction cs' with
      | nil => intro _ _ _; rfl
      | cons c cs' ihc =>
        intro i hm hh
        simp only [busys, ih c (hm c (by simp)) _ hh.1, ihc (i + 1) (fun c hc => hm c (List.mem_cons_of_mem _ hc)) hh.2, Bool.or_false]
    show ((decide (sh = 1) || decide (limN sz ≤ ch)) || busys cs) = false
    rw [key cs 0 (fun _ h => h) hf]
    subst e1 e2 e3
    have : ¬ limN (l.length : Nat) ≤ 0 := by
      unfold limN
      rw [if_pos (by omega)]
      omega
    simp [this]

theorem fits_spots : ∀ (t : Tr) (l : List Pr), t.fits l → l ≠ [] → t.spots.length + 2 ≤ 2 * l.length := by
  intro t
  induction t using Tr.ind with
  | e a => exact fun l h hne => absurd h hne
  | l a k v => intro l h _; cases h; simp [Tr.spots]
  | i a sz sh ch sm ks cs ih =>
    intro l h _
    obtain ⟨⟨h2, h120⟩, _, _, hd, hf⟩ := h
    have pn := partN h2 h120
    have d2 := pn.deg2
    show (spotss _ cs).length + 2 ≤ _
    have key : ∀ (s i : Nat), i ≤ cs.length → (spotss s (cs.take i)).length + i ≤ 2 * fromN l.length i := by
      intro s i
      induction i with
      | zero => intro _; simp [spotss]
      | succ i ihi =>
        intro hi
        have hfi := fitss_at hf i (by omega)
        rw [Nat.zero_add] at hfi
        have hp := partL_len h2 h120 (i := i) (by omega)
        have h1 := pn.one i (by omega)
        have e := ih cs[i] (List.getElem_mem _) _ hfi (by intro e; rw [e] at hp; simp at hp; omega)
        rw [hp] at e
        have := ihi (by omega)
        rw [take_one cs (by omega), spotss_app, pn.next i (by omega)]
        simp only [spotss, List.length_append, List.length_cons, List.length_nil]
        omega
    have e := key (a + 4 + cs.length) cs.length (Nat.le_refl _)
    rw [List.take_length, hd, from_top h2 h120] at e
    rw [hd]
    omega

theorem fits_few (t : Tr) (l : List Pr) (h : t.fits l) (hl : l.length ≤ 120) : t.spots.length < 90000 := by
  by_cases e : l = []
  · subst e
    cases t with
    | empty a => simp [Tr.spots]
    | leaf a k v => simp [Tr.spots]
    | inner a sz sh ch sm ks cs => have := h.1.1; simp at this
  · have := fits_spots t l h e
    omega

/-! ### in order -/

theorem asc_lt' {l : List Pr} (ha : Asc l) : ∀ (i j : Nat) (hi : i < j) (hj : j < l.length), l[i].1 < l[j].1 := by
  intro i j hi
  induction j with
  | zero => omega
  | succ j ih =>
    intro hj
    have h1 := ha j hj
    by_cases c : i = j
    · subst c; exact h1
    · have := ih (by omega) (by omega)
      omega

theorem part_mem {l : List Pr} {i : Nat} {p : Pr} (h : p ∈ partL l i) : ∃ x, ∃ hx : x < l.length, fromN l.length i ≤ x ∧ x < fromN l.length i + sizeN l.length i ∧ l[x] = p := by
  unfold partL at h
  obtain ⟨j, hj, e⟩ := List.getElem_of_mem h
  simp only [List.length_take, List.length_drop] at hj
  simp only [List.getElem_take, List.getElem_drop] at e
  exact ⟨fromN l.length i + j, by omega, by omega, by omega, e⟩

theorem part_asc {l : List Pr} (ha : Asc l) (i : Nat) : Asc (partL l i) := by
  intro j hj
  unfold partL at hj ⊢
  simp only [List.length_take, List.length_drop] at hj
  simp only [List.getElem_take, List.getElem_drop]
  exact ha _ (by omega)

theorem fits_ord : ∀ (t : Tr) (l : List Pr) (lo hi : Int), t.fits l → Asc l → (∀ p ∈ l, lo ≤ p.1 ∧ p.1 ≤ hi) → t.ord lo hi := by
  intro t
  induction t using Tr.ind with
  | e a => exact fun l lo hi h ha hb => trivial
  | l a k v => intro l lo hi h ha hb; cases h; exact hb (k, v) (by simp)
  | i a sz sh ch sm ks cs ih =>
    intro l lo hi h ha hb
    obtain ⟨⟨h2, h120⟩, _, hk, hd, hf⟩ := h
    have pn := partN h2 h120
    have d2 := pn.deg2
    have hkl : ks.length = cs.length - 1 := by rw [hk, keysF_len, hd]
    -- a key between two
    have hkey : ∀ j (hj : j < ks.length), ∃ hx : fromN l.length (j + 1) < l.length, ks[j] = (l[fromN l.length (j + 1)]).1 := by
      intro j hj
      have h1 := pn.one (j + 1) (by omega)
      have h3 := pn.top (j + 1) (by omega)
      have hx : fromN l.length (j + 1) < l.length := by omega
      refine ⟨hx, ?_⟩
      have := keysF_get l (degN l.length) j (by omega)
      rw [← hk, List.getElem?_eq_getElem hj, List.getElem?_eq_getElem hx] at this
      exact Option.some.inj this
    have mono : ∀ i j, i ≤ j → j ≤ cs.length → fromN l.length i ≤ fromN l.length j := by
      intro i j hij
      induction hij with
      | refl => intro _; exact Nat.le_refl _
      | @step m _ ihm =>
        intro hm
        have := ihm (by omega)
        have := pn.next m (by omega)
        show fromN l.length i ≤ fromN l.length (m + 1)
        omega
    have hget : ∀ x y (hx : x < l.length) (hy : y < l.length), x ≤ y → l[x].1 ≤ l[y].1 := by
      intro x y hx hy hxy
      by_cases e : x = y
      · subst e; omega
      · have := asc_lt' ha x y (by omega) hy; omega
    have key : ∀ m j, j + 1 + m = cs.length → ∀ lo', (∀ p ∈ l, p ∈ partL l j → lo' ≤ p.1) → (∀ (x : Nat) (hx : x < l.length), fromN l.length j ≤ x → lo' ≤ l[x].1) → ords lo' hi (ks.drop j) (cs.drop j) := by
      intro m
      induction m with
      | zero =>
        intro j hj lo' _ hlo
        rw [List.drop_eq_nil_of_le (by omega), List.drop_eq_getElem_cons (by omega), List.drop_eq_nil_of_le (by omega)]
        have hfj := fitss_at hf j (by omega)
        rw [Nat.zero_add] at hfj
        refine ih _ (List.getElem_mem _) _ _ _ hfj (part_asc ha j) (fun p hp => ?_)
        obtain ⟨x, hx, x1, x2, rfl⟩ := part_mem hp
        exact ⟨hlo x hx x1, (hb _ (List.getElem_mem _)).2⟩
      | succ m ihm =>
        intro j hj lo' _ hlo
        rw [List.drop_eq_getElem_cons (i := j) (l := ks) (by omega), List.drop_eq_getElem_cons (i := j) (l := cs) (by omega)]
        obtain ⟨hx, ek⟩ := hkey j (by omega)
        have hn := pn.next j (by omega)
        have h1 := pn.one j (by omega)
        have hfj := fitss_at hf j (by omega)
        rw [Nat.zero_add] at hfj
        refine ⟨?_, ?_, ?_, ?_⟩
        · rw [ek]
          have a1 := hlo (fromN l.length j) (by omega) (Nat.le_refl _)
          have a2 := asc_lt' ha (fromN l.length j) (fromN l.length (j + 1)) (by omega) hx
          omega
        · rw [ek]; exact (hb _ (List.getElem_mem _)).2
        · refine ih _ (List.getElem_mem _) _ _ _ hfj (part_asc ha j) (fun p hp => ?_)
          obtain ⟨x, hx', x1, x2, rfl⟩ := part_mem hp
          refine ⟨hlo x hx' x1, ?_⟩
          have := asc_lt' ha x (fromN l.length (j + 1)) (by omega) hx
          rw [ek]; omega
        · refine ihm (j + 1) (by omega) _ (fun p hp hpp => ?_) (fun x hx' hx2 => ?_)
          · obtain ⟨x, hx', x1, x2, rfl⟩ := part_mem hpp
            rw [ek]; exact hget _ _ hx hx' x1
          · rw [ek]; exact hget _ _ hx hx' hx2
    have := key (cs.length - 1) 0 (by omega) lo (fun p hp _ => (hb p hp).1) (fun x hx _ => (hb _ (List.getElem_mem _)).1)
    show ords lo hi ks cs
    simpa using this

/-! ### how deep -/

def maxN (f : Nat → Nat) : Nat → Nat
  | 0 => 0
  | i + 1 => max (maxN f i) (f i)
def depF : Nat → Nat → Nat
  | 0, _ => 0
  | f + 1, n => if n < 2 then 0 else 1 + maxN (fun i => depF f (sizeN n i)) (degN n)
def depN (n : Nat) : Nat := depF 8 n

theorem allDeps : ((List.range 121).all fun n => Nat.blt n 2 || Nat.beq (depN n) (1 + maxN (fun i => depN (sizeN n i)) (degN n))) = true := by kernel_rfl
theorem allDeps1 : (Nat.beq (depN 0) 0 && Nat.beq (depN 1) 0 && (List.range 121).all fun n => Nat.ble (depN n) 100) = true := by kernel_rfl

theorem dep_ok {n : Nat} (h2 : 2 ≤ n) (h : n ≤ 120) : depN n = 1 + maxN (fun i => depN (sizeN n i)) (degN n) := by
  have := List.all_eq_true.1 allDeps n (List.mem_range.2 (by omega))
  simp only [Bool.or_eq_true] at this
  rcases this with h0 | h0
  · have : Nat.ble (n + 1) 2 = true := h0
    have := Nat.le_of_ble_eq_true this; omega
  · exact Nat.eq_of_beq_eq_true h0

theorem fits_deep : ∀ (t : Tr) (l : List Pr), t.fits l → t.deep = depN l.length := by
  have h01 : depN 0 = 0 ∧ depN 1 = 0 := by
    have := allDeps1
    simp only [Bool.and_eq_true] at this
    exact ⟨Nat.eq_of_beq_eq_true this.1.1, Nat.eq_of_beq_eq_true this.1.2⟩
  intro t
  induction t using Tr.ind with
  | e a => intro l h; cases h; exact h01.1.symm
  | l a k v => intro l h; cases h; exact h01.2.symm
  | i a sz sh ch sm ks cs ih =>
    intro l h
    obtain ⟨⟨h2, h120⟩, _, hk, hd, hf⟩ := h
    show 1 + deeps cs = _
    rw [dep_ok h2 h120]
    have key : ∀ i, i ≤ cs.length → deeps (cs.take i) = maxN (fun i => depN (sizeN l.length i)) i := by
      intro i
      induction i with
      | zero => intro _; rfl
      | succ i ihi =>
        intro hi
        have hfi := fitss_at hf i (by omega)
        rw [Nat.zero_add] at hfi
        have e := ih cs[i] (List.getElem_mem _) _ hfi
        rw [partL_len h2 h120 (by omega)] at e
        rw [take_one cs (by omega), deeps_app, ihi (by omega)]
        simp [deeps, maxN, e]
    have e := key cs.length (Nat.le_refl _)
    rw [List.take_length] at e
    rw [e, hd]

theorem dep_less {n : Nat} (h : n ≤ 120) : depN n ≤ 100 := by
  have := allDeps1
  simp only [Bool.and_eq_true, List.all_eq_true, List.mem_range] at this
  exact Nat.le_of_ble_eq_true (this.2 n (by omega))

/-! ### cells of its own -/

theorem marks_get : ∀ (t : Tr) (T : List Bool) (i : Nat), i < T.length → (t.marks T)[i]? = some (decide (i ∈ t.adrs) || (T[i]?).getD false) := by
  intro t
  induction t using Tr.ind with
  | e a =>
    intro T i hi
    show (setR T a 1)[i]? = _
    rw [setR_get hi]
    by_cases h : i = a
    · subst h; simp [Tr.adrs]
    · rw [if_neg (by omega)]; simp [Tr.adrs, h]
  | l a k v =>
    intro T i hi
    show (setR T a 2)[i]? = _
    rw [setR_get hi]
    by_cases h : a ≤ i ∧ i < a + 2
    · rw [if_pos h]
      have : i = a ∨ i = a + 1 := by omega
      simp [Tr.adrs, this]
    · rw [if_neg h]
      have : ¬ (i = a ∨ i = a + 1) := by omega
      simp only [Tr.adrs, List.mem_cons, List.not_mem_nil, or_false, this, decide_false, Bool.false_or]
  | i a sz sh ch sm ks cs ih =>
    intro T i hi
    show (markss (setR T a (2 * cs.length + 4)) cs)[i]? = _
    have key : ∀ (cs' : List Tr) (T : List Bool), i < T.length → (∀ c ∈ cs', c ∈ cs) → (markss T cs')[i]? = some (decide (i ∈ adrss cs') || (T[i]?).getD false) := by
      intro cs'
      induction cs' with
      | nil => intro T hi _; simp [markss, adrss, hi]
      | cons c cs' ihc =>
        intro T hi hm
        show (markss (c.marks T) cs')[i]? = _
        rw [ihc (c.marks T) (by rw [markss_len]; exact hi) (fun x hx => hm x (List.mem_cons_of_mem _ hx)), ih c (hm c (by simp)) T i hi]
        simp only [adrss, List.mem_append, Option.getD_some]
        by_cases h1 : i ∈ c.adrs <;> by_cases h2 : i ∈ adrss cs' <;> simp [h1, h2]
    rw [key cs _ (by rw [setR_len]; exact hi) (fun _ h => h), setR_get hi]
    simp only [Tr.adrs, List.mem_append, List.mem_range'_1, Option.getD_some]
    by_cases h1 : a ≤ i ∧ i < a + (2 * cs.length + 4) <;> by_cases h2 : i ∈ adrss cs <;> simp [h1, h2]

theorem free_of : ∀ (t : Tr) (T : List Bool), (∀ i ∈ t.adrs, T[i]? = some false) → t.adrs.Nodup → t.free T := by
  intro t
  induction t using Tr.ind with
  | e a => intro T h _ i h1 h2; exact h i (by simp [Tr.adrs]; omega)
  | l a k v => intro T h _ i h1 h2; exact h i (by simp [Tr.adrs]; omega)
  | i a sz sh ch sm ks cs ih =>
    intro T h hn
    have hn' : (List.range' a (2 * cs.length + 4) ++ adrss cs).Nodup := hn
    have h' : ∀ i, i ∈ List.range' a (2 * cs.length + 4) ++ adrss cs → T[i]? = some false := h
    rw [List.nodup_append] at hn'
    obtain ⟨_, n2, n3⟩ := hn'
    refine ⟨fun i h1 h2 => h' i (by simp [List.mem_range'_1]; omega), ?_⟩
    have key : ∀ (cs' : List Tr) (T : List Bool), (∀ c ∈ cs', c ∈ cs) → (∀ i ∈ adrss cs', T[i]? = some false) → (adrss cs').Nodup → frees T cs' := by
      intro cs'
      induction cs' with
      | nil => intro T _ _ _; trivial
      | cons c cs' ihc =>
        intro T hm hT hnd
        have hnd' : (c.adrs ++ adrss cs').Nodup := hnd
        rw [List.nodup_append] at hnd'
        obtain ⟨a1, a2, a3⟩ := hnd'
        refine ⟨ih c (hm c (by simp)) T (fun i hi => hT i (by simp [adrss, hi])) a1, ihc (c.marks T) (fun x hx => hm x (List.mem_cons_of_mem _ hx)) (fun i hi => ?_) a2⟩
        have e := hT i (by simp [adrss, hi])
        have hlt : i < T.length := by
          rcases Nat.lt_or_ge i T.length with h | h
          · exact h
          · rw [List.getElem?_eq_none h] at e; cases e
        rw [marks_get c T i hlt, e]
        have : i ∉ c.adrs := fun hc => a3 i hc i hi rfl
        simp [this]
    refine key cs _ (fun _ h => h) (fun i hi => ?_) n2
    have e := h' i (by simp [hi])
    have hlt : i < T.length := by
      rcases Nat.lt_or_ge i T.length with h | h
      · exact h
      · rw [List.getElem?_eq_none h] at e; cases e
    rw [setR_get hlt, e]
    have : ¬ (a ≤ i ∧ i < a + (2 * cs.length + 4)) := fun hc => n3 i (by simp [List.mem_range'_1]; omega) i hi rfl
    simp [this]

/-! ### what plant lays -/

def tkids (tr : List Pr → Nat → Tr) (lay : List Pr → Nat → Int × List Int) (l : List Pr) (u : Nat) : Nat → List Tr
  | 0 => []
  | i + 1 => tkids tr lay l u i ++ [tr (partL l i) (u + (kidsF lay l u i).2.length)]

def treeF : Nat → List Pr → Nat → Tr
  | 0, _, u => .empty (u + 1)
  | f + 1, l, u => match l with
    | [] => .empty (u + 1)
    | [p] => .leaf (u + 1) p.1 p.2
    | l => .inner (u + (kidsF (layF f) l u (degN l.length)).2.length + 1) (l.length : Nat) 0 0 0 (keysF l (degN l.length)) (tkids (treeF f) (layF f) l u (degN l.length))

theorem treeF_two {f : Nat} {l : List Pr} {u : Nat} (h : 2 ≤ l.length) : treeF (f + 1) l u = .inner (u + (kidsF (layF f) l u (degN l.length)).2.length + 1) (l.length : Nat) 0 0 0 (keysF l (degN l.length)) (tkids (treeF f) (layF f) l u (degN l.length)) := by
  match l, h with
  | p :: q :: l, _ => rfl

/-- these cells lie there -/
def Holds (C : List Int) (u : Nat) (L : List Int) : Prop := u + L.length ≤ C.length ∧ ∀ (j : Nat) (v : Int), L[j]? = some v → at0 C (u + 1 + j) = v

theorem Holds.left {C : List Int} {u : Nat} {A B : List Int} (h : Holds C u (A ++ B)) : Holds C u A := by
  refine ⟨by have := h.1; simp at this; omega, fun j v hv => h.2 j v ?_⟩
  rw [List.getElem?_append_left (by
    rcases Nat.lt_or_ge j A.length with h | h
    · exact h
    · rw [List.getElem?_eq_none h] at hv; cases hv)]
  exact hv
theorem Holds.right {C : List Int} {u : Nat} {A B : List Int} (h : Holds C u (A ++ B)) : Holds C (u + A.length) B := by
  refine ⟨by have := h.1; simp at this; omega, fun j v hv => ?_⟩
  rw [show u + A.length + 1 + j = u + 1 + (A.length + j) by omega]
  refine h.2 _ v ?_
  rw [List.getElem?_append_right (by omega), show A.length + j - A.length = j by omega]
  exact hv

structure LaidAt (t : Tr) (w : Int) (L : List Int) (l : List Pr) (u : Nat) : Prop where
  word : t.word = w
  fits : t.fits l
  ok : ∀ C, Holds C u L → t.ok C
  adr : ∀ i ∈ t.adrs, u + 1 ≤ i ∧ i ≤ u + L.length
  nodup : t.adrs.Nodup

theorem treeF_spec : ∀ (f : Nat) (l : List Pr) (u : Nat), l.length < f → l.length ≤ 120 → LaidAt (treeF f l u) (layF f l u).1 (layF f l u).2 l u
  | 0, l, u, hf, _ => by omega
  | f + 1, l, u, hf, hl => by
    by_cases h2 : 2 ≤ l.length
    · have pn := partN h2 hl
      have d2 := pn.deg2
      have key : ∀ i, i ≤ degN l.length → (tkids (treeF f) (layF f) l u i).length = i ∧ (kidsF (layF f) l u i).1 = (tkids (treeF f) (layF f) l u i).map Tr.word ∧ fitss (tkids (treeF f) (layF f) l u i) l 0 ∧ (∀ C, Holds C u (kidsF (layF f) l u i).2 → oks C (tkids (treeF f) (layF f) l u i)) ∧
          (∀ j ∈ adrss (tkids (treeF f) (layF f) l u i), u + 1 ≤ j ∧ j ≤ u + (kidsF (layF f) l u i).2.length) ∧ (adrss (tkids (treeF f) (layF f) l u i)).Nodup := by
        intro i
        induction i with
        | zero => intro _; exact ⟨rfl, rfl, trivial, fun _ _ => trivial, by simp [tkids, adrss], by simp [tkids, adrss]⟩
        | succ i ih =>
          intro hi
          obtain ⟨k1, k2, k3, k4, k5, k6⟩ := ih (by omega)
          have hp := partL_len h2 hl (i := i) (by omega)
          have hless := pn.less i (by omega)
          have s := treeF_spec f (partL l i) (u + (kidsF (layF f) l u i).2.length) (by omega) (by omega)
          simp only [tkids, kidsF]
          refine ⟨by simp [k1], by simp [k2, s.word], fitss_app k3 (by rw [k1, Nat.zero_add]; exact s.fits), fun C hC => oks_app (k4 C hC.left) (s.ok C hC.right), ?_, ?_⟩
          · intro j hj
            rw [adrss_app] at hj
            simp only [List.mem_append, adrss, List.append_nil] at hj
            rw [List.length_append]
            rcases hj with hj | hj
            · have := k5 j hj; omega
            · have := s.adr j hj; omega
          · rw [adrss_app, List.nodup_append]
            refine ⟨k6, by simpa [adrss] using s.nodup, fun x hx y hy e => ?_⟩
            simp only [adrss, List.append_nil] at hy
            have h1 := k5 x hx
            have h2 := s.adr y hy
            omega
      obtain ⟨k1, k2, k3, k4, k5, k6⟩ := key (degN l.length) (Nat.le_refl _)
      rw [treeF_two h2, layF_two h2]
      generalize hks : kidsF (layF f) l u (degN l.length) = ks at k2 k4 k5
      generalize hcs : tkids (treeF f) (layF f) l u (degN l.length) = cs at k1 k2 k3 k4 k5 k6
      have kl := keysF_len l (degN l.length)
      have wl : ks.1.length = degN l.length := by rw [k2]; simp [k1]
      refine ⟨?_, ?_, ?_, ?_, ?_⟩
      · show (((u + ks.2.length + 1 : Nat) : Int)) * 8 + 3 = _
        simp
      · exact ⟨⟨h2, hl⟩, ⟨rfl, rfl, rfl, rfl⟩, rfl, k1, k3⟩
      · intro C hC
        have hr := hC.right
        have hrl := hr.1
        simp only [List.length_append, List.length_cons, List.length_nil, kl, wl] at hrl
        have ha : ∀ (j : Nat) (v : Int), ([(degN l.length : Int), (l.length : Int), 0, 0, 0] ++ keysF l (degN l.length) ++ ks.1)[j]? = some v → at0 C (u + ks.2.length + 1 + j) = v := hr.2
        refine ⟨⟨by omega, by omega, by omega, by omega⟩, ⟨?_, ?_, ?_, ?_, ?_⟩, .inl rfl, ⟨by omega, by omega⟩, ?_, ?_, k4 C hC.left⟩
        · rw [k1]; exact ha 0 _ rfl
        · exact ha 1 _ rfl
        · exact ha 2 _ rfl
        · exact ha 3 _ rfl
        · exact ha 4 _ rfl
        · intro i hi
          rw [show u + ks.2.length + 1 + 5 + i = u + ks.2.length + 1 + (5 + i) by omega]
          refine ha (5 + i) _ ?_
          rw [List.append_assoc, List.getElem?_append_right (by simp), List.getElem?_append_left (by simp; omega)]
          have e : 5 + i - [(degN l.length : Int), (l.length : Int), 0, 0, 0].length = i := by simp
          rw [e, List.getElem?_eq_getElem hi]
        · intro i hi
          rw [show u + ks.2.length + 1 + 4 + cs.length + i = u + ks.2.length + 1 + (4 + cs.length + i) by omega]
          refine ha (4 + cs.length + i) _ ?_
          have hln : ([(degN l.length : Int), (l.length : Int), 0, 0, 0] ++ keysF l (degN l.length)).length = 4 + cs.length := by simp [kl]; omega
          rw [List.getElem?_append_right (by omega), hln, k2, show 4 + cs.length + i - (4 + cs.length) = i by omega, List.getElem?_map, List.getElem?_eq_getElem hi]
          rfl
      · intro i hi
        simp only [Tr.adrs, List.mem_append, List.mem_range'_1, k1] at hi
        simp only [List.length_append, List.length_cons, List.length_nil, kl, wl]
        rcases hi with hi | hi
        · omega
        · have := k5 i hi; omega
      · show (List.range' _ _ ++ adrss cs).Nodup
        rw [List.nodup_append]
        refine ⟨List.nodup_range', k6, fun x hx y hy e => ?_⟩
        simp only [List.mem_range'_1] at hx
        have := k5 y hy
        omega
    · match l, h2 with
      | [], _ => exact ⟨rfl, rfl, fun C hC => ⟨by simp, by have := hC.1; simp [layF] at this; exact this⟩, by simp [treeF, Tr.adrs, layF], by simp [treeF, Tr.adrs]⟩
      | [p], _ => exact ⟨rfl, rfl, fun C hC => ⟨by simp, by have := hC.1; simp [layF] at this; omega, hC.2 0 _ rfl, hC.2 1 _ rfl⟩, by simp [treeF, Tr.adrs, layF], by simp [treeF, Tr.adrs]⟩
      | _ :: _ :: _, h2 => simp at h2
end
end Go.Proofs.YtpeihcpclcibgaaGreat.Ai
/- Pairs, with what their keys are. -/
namespace Go.Proofs.YtpeihcpclcibgaaGreat.Ai
open Go.Proofs.YtpeihcpclcibgaaGreat
noncomputable section
open Go.RowKit
section
variable {P : Program} {tab : Nat → Option AFunc} (hT : TabOk P tab) (H : Has tab)
include hT H

theorem put2_spec {h : Heap} {u : Option Nat} {l : List Pr} (o : OwnAt h u 2 l.length (flat l)) (ha : Asc l) (hl : l.length < 10000) (k x : Int) :
    FSpec P 66 [ownSl u l.length, I k, I x] h fun v h' => (∃ l' y, v = ownSl (some y) l'.length ∧ OwnAt h' (some y) 2 l'.length (flat l') ∧ Asc l' ∧ l'.length ≤ l.length + 1 ∧ h.next ≤ y ∧ ∀ p ∈ l', p ∈ l ∨ p = (k, x)) ∧ Same h h' (fun _ => False) := by
  refine fspec_cwf hT H.f67 rfl ?_
  have pa : PrAt h (ownSl u l.length) l u := by
    cases u with
    | none => have := o.non rfl; exact .inl ⟨List.eq_nil_of_length_eq_zero this, none, 0, by rw [this]; rfl⟩
    | some y => exact .inr ⟨y, 0, l.length, rfl, rfl, (o.use y rfl).2.2, o.rd⟩
  obtain ⟨v0, h0, F0, ⟨n, rfl, hn, hlt, hge⟩, rfl⟩ := place_spec hT H pa (by omega) k
  simp only [af66, cwf_seq, cwf_ops, andThen_normal, owf_nil, o_p, owf_call, bo_eq, optQ_some, pop, popQ, ev, evs, putA, putArgs, look_put, ite_true, ite_false, Nat.reduceEqDiff, Nat.reduceAdd, Nat.zero_add]
  refine ⟨_, _, F0, ?_⟩
  simp only [cwf_seq, cwf_ops, andThen_normal, owf_nil, o_p, o_r, o_e, behind_eq, bo_eq, optQ_some, opt2_some, pop, popQ, rop_slice, ev, evO, putA, look_put, eop_buildS, bldS_some, evP_nil, fillA_nil, Nat.zero_mul, ite_true, ite_false, Nat.reduceEqDiff]
  generalize hh1 : h0.new ⟨[], 0, 2, true, false⟩ = h1
  have s1 : Same h0 h1 (fun _ => False) := hh1 ▸ Same.new
  have e1 : h1.blks.get h0.next = some ⟨[], 0, 2, true, false⟩ := hh1 ▸ (by rw [new_get]; exact if_pos rfl)
  have l1 : h1.next = h0.next + 1 := hh1 ▸ rfl
  have o1 := o.same s1 (fun _ _ x => x)
  obtain ⟨v1, a1, b1⟩ := o1.to hn
  obtain ⟨v2, h2, z2, a2, m2, s2, z2e, _⟩ := app_empty (bytes := 16) e1 (by omega) b1 (by simp [flat_len]; omega) (List.all_eq_true.2 fun y hy => List.all_eq_true.1 (flat_scalar l) y (List.mem_of_mem_take hy)) (by omega) (by omega) (by omega)
  have hcell : RdAt (h2.new ⟨[I k, I x], 2, 2, true, false⟩) h2.next 0 2 1 1 [I k, I x] := RdAt.fresh h2 [I k, I x] 1 2 true false rfl
  generalize hh3 : h2.new ⟨[I k, I x], 2, 2, true, false⟩ = h3 at hcell
  have s3 : Same h2 h3 (fun _ => False) := hh3 ▸ Same.new
  obtain ⟨z4, h4, a4, o4, s4, z4e⟩ := app_mid (bytes := 16) (m2.same s3 (fun x => x)) hcell.src rfl rfl (by omega) (by omega) (by omega) (by omega)
  have n2 := s2.next
  have n3 := s3.next
  have n4 := s4.next
  have zf : h0.next ≤ z2 := by omega
  have zf4 : h0.next ≤ z4 := by omega
  have sa : Same h0 h3 (fun _ => False) := (s1.trans s2 (fun _ _ x => x)).trans s3 (fun _ _ x => x)
  have sb : Same h0 h4 (fun _ => False) := sa.trans s4 (fun j hj e => by omega)
  have ob := o.same sb (fun _ _ x => x)
  have fin : ∀ n', n ≤ n' → n' ≤ l.length → (∀ j (hj : j < l.length), n' ≤ j → k < l[j].1) → ∃ v5, slV h4 2 (ownSl u l.length) (some (I n')) none = some v5 ∧ ∃ u6 h6, appV h4 2 16 (ownSl (some z4) (n + 1)) v5 = some (ownSl u6 (n + 1 + (l.length - n')), h6) ∧
      (∃ l' y, ownSl u6 (n + 1 + (l.length - n')) = ownSl (some y) l'.length ∧ OwnAt h6 (some y) 2 l'.length (flat l') ∧ Asc l' ∧ l'.length ≤ l.length + 1 ∧ h0.next ≤ y ∧ ∀ p ∈ l', p ∈ l ∨ p = (k, x)) ∧ Same h0 h6 (fun _ => False) := by
    intro n' hn1 hn2 hgt
    obtain ⟨v5, a5, b5⟩ := ob.from hn2
    obtain ⟨u6, h6, a6, o6, s6, u6e⟩ := app_own (bytes := 16) o4 b5 (by simp [flat_len]; omega) (List.all_eq_true.2 fun y hy => List.all_eq_true.1 (flat_scalar l) y (List.mem_of_mem_drop hy)) (by omega) (by omega) (by omega)
    refine ⟨v5, a5, u6, h6, a6, ?_, sb.trans s6 (fun j hj e => by cases e; omega)⟩
    cases hu : u6 with
    | none => have := o6.non hu; omega
    | some y =>
      rw [hu] at o6
      have e : (l.take n ++ [(k, x)] ++ l.drop n').length = n + 1 + (l.length - n') := by simp; omega
      have ef : flat (l.take n ++ [(k, x)] ++ l.drop n') = (flat l).take (n * 2) ++ [I k, I x] ++ (flat l).drop (n' * 2) := by rw [flat_app, flat_app, flat_take, flat_drop]; rfl
      refine ⟨l.take n ++ [(k, x)] ++ l.drop n', y, by rw [e], by rw [e, ef]; exact o6, put_asc ha hlt hn hgt, by rw [e]; omega, ?_, ?_⟩
      · rcases u6e y hu with e2 | e2
        · cases e2; omega
        · omega
      · intro p hp
        simp only [List.mem_append, List.mem_singleton] at hp
        rcases hp with (hp | hp) | hp
        · exact .inl (List.mem_of_mem_take hp)
        · exact .inr hp
        · exact .inl (List.mem_of_mem_drop hp)
  have wn : wrapF .i64 ((n : Int) + 1) = ((n + 1 : Nat) : Int) := by rw [wrapI] <;> omega
  simp only [cwf_seq, cwf_ops, andThen_normal, owf_nil, o_p, o_e, behind_eq, bo_eq, optQ_some, opt2_some, pop, popQ, ev, putA, look_put, abinF_eq, abin, eop_app, eop_buildS, bldS_some, evP_nil, evP_cons, fillA_nil, fillA_one, fillA_pair, List.length_cons, List.length_nil, List.set_cons_zero, List.set_cons_succ, Nat.reduceLT, Nat.lt_add_one, scalar_int, decide_true, cond_true, cond_false, ite_true, ite_false, Nat.reduceEqDiff, Nat.reduceAdd, Nat.zero_add, Nat.reduceMul, a1, a2, hh3, a4]
  by_cases c1 : n < l.length
  · have ci : ((n : Int) < l.length) = True := by simp [c1]
    obtain ⟨y, rfl⟩ : ∃ y, u = some y := by
      cases u with
      | none => have := o.non rfl; omega
      | some y => exact ⟨y, rfl⟩
    have rk : h4.rd y (n * 2) = some (I l[n].1) := by
      have := ob.rd.rd (i := n * 2) (by omega)
      rw [Nat.zero_add] at this
      rw [this]; exact flat_key l n c1
    by_cases c2 : l[n].1 = k
    · have c3 : (l[n].1 == k) = true := by rw [c2]; simp
      obtain ⟨v5, a5, u6, h6, a6, hp, s6⟩ := fin (n + 1) (by omega) (by omega) (fun j hj hj2 => by rw [← c2]; exact asc_lt ha n j (by omega) hj)
      simp only [ownSl, Option.map_some] at a5 a6
      simp only [cwf_seq, cwf_ops, cwf_ret, c_true, andThen_normal, fnQ_ret, owf_nil, o_p, o_r, o_e, o_on, behind_eq, bo_eq, optQ_some, opt2_some, pop, popQ, rop_load1, ldV_ptr, rop_slice, ev, evO, putA, look_put, isB_true, abinF_eq, abin, resAll, resA, mkRes1, eop_app, Int.toNat_natCast, Int.natCast_nonneg, Nat.add_zero, inB_eq, decide_true, cond_true, ite_true, ite_false, Bool.and_true, Nat.reduceEqDiff, Nat.zero_add, Option.some.injEq, exists_eq_left', ownSl, Option.map_some, ci, rk, c3, wn, a5, a6]
      rw [tail_marks h0 h6 s6.marks]
      exact ⟨hp, s6⟩
    · have c3 : (l[n].1 == k) = false := by simp [c2]
      have hgt : ∀ j (hj : j < l.length), n ≤ j → k < l[j].1 := fun j hj hj2 => by
        have h1 := hge c1
        by_cases e : j = n
        · subst e; omega
        · have := asc_lt ha n j (by omega) hj; omega
      obtain ⟨v5, a5, u6, h6, a6, hp, s6⟩ := fin n (Nat.le_refl _) hn hgt
      simp only [ownSl, Option.map_some] at a5 a6
      simp only [cwf_seq, cwf_ops, cwf_ret, c_false, cwf_skip, andThen_normal, fnQ_ret, owf_nil, o_p, o_r, o_e, o_on, behind_eq, bo_eq, optQ_some, opt2_some, pop, popQ, rop_load1, ldV_ptr, rop_slice, ev, evO, putA, look_put, isB_true, isB_false, abinF_eq, abin, resAll, resA, mkRes1, eop_app, Int.toNat_natCast, Int.natCast_nonneg, Nat.add_zero, inB_eq, decide_true, cond_true, ite_true, ite_false, Bool.and_true, Bool.not_false, Nat.reduceEqDiff, Nat.zero_add, Option.some.injEq, exists_eq_left', ownSl, Option.map_some, ci, rk, c3, a5, a6]
      rw [tail_marks h0 h6 s6.marks]
      exact ⟨hp, s6⟩
  · have ci : ((n : Int) < l.length) = False := by simp; omega
    obtain ⟨v5, a5, u6, h6, a6, hp, s6⟩ := fin n (Nat.le_refl _) hn (fun j hj hj2 => by omega)
    simp only [cwf_seq, cwf_ops, cwf_ret, c_false, cwf_skip, andThen_normal, fnQ_ret, owf_nil, o_p, o_r, o_e, o_off, behind_eq, bo_eq, optQ_some, opt2_some, pop, popQ, rop_slice, ev, evO, putA, look_put, isB_true, isB_false, resAll, resA, mkRes1, eop_app, decide_false, cond_false, ite_true, ite_false, Bool.not_false, Nat.reduceEqDiff, Option.some.injEq, exists_eq_left', ci, a5, a6]
    rw [tail_marks h0 h6 s6.marks]
    exact ⟨hp, s6⟩


theorem pairs2_spec {h : Heap} {v : Value} {L : List Int} (a : (L = [] ∧ ∃ base cap, v = .slice base 0 cap) ∨ ∃ x p cap, v = .slice (some ⟨x, p, none⟩) L.length cap ∧ RdAt h x p 1 L.length cap (L.map I)) :
    FSpec P 12 [v] h fun v h' => (∃ l u, v = ownSl u l.length ∧ OwnAt h' u 2 l.length (flat l) ∧ Asc l ∧ l.length ≤ 60 ∧ (∀ y, u = some y → h.next ≤ y) ∧ ∀ p ∈ l, -1000 ≤ p.1 ∧ p.1 ≤ 1000) ∧ Same h h' (fun _ => False) := by
  refine fspec_cwf hT H.f33 rfl ?_
  have hv : ∃ base cap, v = .slice base L.length cap := by
    rcases a with ⟨rfl, base, cap, rfl⟩ | ⟨x, p, cap, rfl, _⟩ <;> exact ⟨_, _, rfl⟩
  simp only [af12, cwf_seq, cwf_ops, cwf_block, cwf_loop, andThen_normal, owf_nil, o_p, bo_eq, optQ_some, pop, popQ, ev, putA, putArgs, Int.reduceNeg]
  refine cw_loop (fun m ts h' => ∃ (i : Nat) (l : List Pr) (u : Option Nat), m = 60 - i ∧ i ≤ 60 ∧ l.length ≤ i ∧ look ts 0 = v ∧ look ts 3 = ownSl u l.length ∧ look ts 4 = I i ∧ OwnAt h' u 2 l.length (flat l) ∧ Asc l ∧ (∀ y, u = some y → h.next ≤ y) ∧ (∀ p ∈ l, -1000 ≤ p.1 ∧ p.1 ≤ 1000) ∧ Same h h' (fun _ => False)) ?_ (n := 60) ⟨0, [], none, rfl, by omega, by simp, by simp only [look_put, ite_true, ite_false, Nat.reduceEqDiff], by simp only [look_put, List.length_nil, ite_true, ite_false, Nat.reduceEqDiff] <;> rfl, by simp only [look_put, Int.cast_ofNat_Int, ite_true, ite_false, Nat.reduceEqDiff] <;> rfl, OwnAt.nil _ _, fun j hj => by simp at hj, by simp, by simp, Same.refl _ _⟩
  rintro m ts h' ⟨i, l, u, rfl, i60, hli, t0, t3, t4, o, hasc, hu, hkeys, hs⟩
  obtain ⟨base, cap, hv⟩ := hv
  refine cwf_cw ?_
  by_cases c : i < L.length ∧ i < 60
  · obtain ⟨c1, c2⟩ := c
    rcases a with ⟨rfl, _⟩ | ⟨x, p, cap', rfl, hr⟩
    · simp at c1
    cases hv
    have ci : ((i : Int) < L.length) = True := by simp [c1]
    have ci2 : ((i : Int) < 60) = True := by simp; omega
    have rk : h'.rd x (p + i) = some (I L[i]) := by
      rw [(hr.same hs (fun x => x)).rd (by omega)]; simp [c1]
    obtain ⟨v1, h1, F1, rfl, rfl⟩ := cut_spec hT H h' L[i] 97 (by omega) (by omega)
    have em := Int.emod_nonneg L[i] (show (97 : Int) ≠ 0 by omega)
    have el := Int.emod_lt_of_pos L[i] (show (0 : Int) < 97 by omega)
    have w40 : wrapF .i64 (L[i] % 97 - 40) = L[i] % 97 - 40 := wrapI (by omega) (by omega)
    have wi : wrapF .i64 ((i : Int) + 1) = ((i + 1 : Nat) : Int) := by rw [wrapI] <;> omega
    simp only [cwf_seq, cwf_ops, c_true, cwf_skip, cwf_block, andThen_normal, owf_nil, o_p, o_r, owf_call, o_on, bo_eq, optQ_some, pop, popQ, rop_load1, ldV_ptr, ev, evs, putA, look_put, isB_true, abinF_eq, abin, Int.toNat_natCast, Int.natCast_nonneg, Nat.mul_one, Int.reduceNeg, inB_eq, decide_true, cond_true, cond_false, ite_true, ite_false, Bool.and_true, Nat.reduceEqDiff, t0, t4, ci, ci2, rk]
    refine ⟨_, _, F1, ?_⟩
    simp only [cwf_ops, andThen_normal, owf_nil, o_p, owf_call, behind_eq, bo_eq, optQ_some, pop, popQ, ev, evs, putA, look_put, abinF_eq, abin, Int.reduceNeg, decide_true, cond_true, ite_true, ite_false, Nat.reduceEqDiff, t3, t4, w40]
    obtain ⟨v2, h2, F2, ⟨l', y, rfl, o', hasc', hl', hy, hky⟩, s2⟩ := put2_spec hT H o hasc (by omega) (L[i] % 97 - 40) i
    refine ⟨_, _, F2, ?_⟩
    simp only [cwf_ops, andThen_normal, blockQ_normal, roundQ_normal, owf_nil, o_p, behind_eq, bo_eq, optQ_some, pop, popQ, ev, putA, look_put, abinF_eq, abin, Int.reduceNeg, decide_true, cond_true, ite_true, ite_false, Nat.reduceEqDiff, true_and, t0, t3, t4, wi]
    have n1 := hs.next
    refine ⟨60 - (i + 1), by omega, i + 1, l', some y, rfl, by omega, by omega, rfl, rfl, o', hasc', (fun z hz => by cases hz; omega), (fun p hp => (hky p hp).elim (hkeys p) (fun e => by rw [e]; constructor <;> (show _ ≤ _) <;> simp only [] <;> omega)), hs.trans s2 (fun _ _ x => x)⟩
  · subst hv
    by_cases c1 : i < L.length
    · have ci : ((i : Int) < L.length) = True := by simp [c1]
      have ci2 : ((i : Int) < 60) = False := by simp; omega
      simp only [cwf_seq, cwf_ops, cwf_ret, c_false, cwf_exit, andThen_normal, andThen_exit, blockQ_exit, roundQ_exit, fnQ_ret, owf_nil, o_p, o_on, bo_eq, optQ_some, pop, popQ, ev, putA, look_put, isB_true, isB_false, abinF_eq, abin, resAll, resA, mkRes1, Int.reduceNeg, decide_true, decide_false, cond_true, cond_false, ite_true, ite_false, Bool.not_false, Nat.reduceEqDiff, Option.some.injEq, exists_eq_left', t0, t3, t4, ci, ci2]
      rw [tail_marks h h' hs.marks]
      exact ⟨⟨l, u, rfl, o, hasc, by omega, hu, hkeys⟩, hs⟩
    · have ci : ((i : Int) < L.length) = False := by simp; omega
      simp only [cwf_seq, cwf_ops, cwf_ret, c_false, cwf_exit, andThen_normal, andThen_exit, blockQ_exit, roundQ_exit, fnQ_ret, owf_nil, o_p, o_off, bo_eq, optQ_some, pop, popQ, ev, putA, look_put, isB_true, isB_false, abinF_eq, abin, resAll, resA, mkRes1, Int.reduceNeg, decide_true, decide_false, cond_true, cond_false, ite_true, ite_false, Bool.not_false, Nat.reduceEqDiff, Option.some.injEq, exists_eq_left', t0, t3, t4, ci]
      rw [tail_marks h h' hs.marks]
      exact ⟨⟨l, u, rfl, o, hasc, by omega, hu, hkeys⟩, hs⟩

end
end
end Go.Proofs.YtpeihcpclcibgaaGreat.Ai
/- What stands below Root. -/
namespace Go.Proofs.YtpeihcpclcibgaaGreat.Ai
open Go.Proofs.YtpeihcpclcibgaaGreat
noncomputable section
open Go.RowKit
theorem base0_get {n i : Nat} (h1 : 7 ≤ i) (h2 : i ≤ n) : (base0 n)[i]? = some false := by
  unfold base0
  rw [setR_get (by simp; omega), if_neg (by omega)]
  simp [show i < n + 1 by omega]

/-- it stands below Root -/
theorem rooted_of {L : List Int} {l : List Pr} {t : Tr} {w : Int} (S : LaidAt t w L l 7) (hl : l.length ≤ 120) (ha : Asc l) (hk : ∀ p ∈ l, -1000 ≤ p.1 ∧ p.1 ≤ 1000) (hL : L.length ≤ 60000) : Rooted ([1, 0, 0, 0, 0, w, 0] ++ L) t := by
  have hlen : ([1, 0, 0, 0, 0, w, 0] ++ L).length = 7 + L.length := by simp; omega
  refine ⟨⟨by omega, by omega⟩, ⟨rfl, rfl⟩, S.word.symm, S.ok _ ⟨by omega, fun j v hv => ?_⟩, ?_, free_of _ _ (fun i hi => ?_) S.nodup, fits_few t l S.fits hl⟩
  · unfold at0
    rw [if_neg (by omega), show 7 + 1 + j - 1 = 7 + j by omega, List.getElem?_append_right (by simp)]
    simp [hv]
  · exact fits_ord t l _ _ S.fits ha (fun p hp => by have := hk p hp; omega)
  · have := S.adr i hi
    exact base0_get (by omega) (by omega)
end
end Go.Proofs.YtpeihcpclcibgaaGreat.Ai
