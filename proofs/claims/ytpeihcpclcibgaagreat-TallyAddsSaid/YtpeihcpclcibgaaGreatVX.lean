/- Texts put together: View0, VA, VB, VC, VD, VE, VF, VG, VH. -/
import Derived.Test.YtpeihcpclcibgaaGreatPX
import Derived.Test.YtpeihcpclcibgaaGreatTabOk
import Derived.Test.YtpeihcpclcibgaaGreatTh2
import Derived.Test.YtpeihcpclcibgaaGreatQX
/- Trees in cells: what is below a word, in plain lists and numbers. -/
namespace Go.Proofs.YtpeihcpclcibgaaGreat.Ai
open Go.Proofs.YtpeihcpclcibgaaGreat
noncomputable section
set_option linter.unusedVariables false

/-- a tree: its records' addresses, and what they hold -/
inductive Tr where
  | empty (a : Nat)
  | leaf (a : Nat) (k v : Int)
  | inner (a : Nat) (sz sh ch sm : Int) (ks : List Int) (cs : List Tr)

def Tr.adr : Tr → Nat
  | .empty a => a
  | .leaf a _ _ => a
  | .inner a _ _ _ _ _ _ => a
def Tr.kind : Tr → Int
  | .empty _ => 1
  | .leaf _ _ _ => 2
  | .inner _ _ _ _ _ _ _ => 3
def Tr.word (t : Tr) : Int := (t.adr : Int) * 8 + t.kind

/-- what a cell holds -/
def at0 (C : List Int) (a : Nat) : Int := if a = 0 then 0 else (C[a - 1]?).getD 0

def limN (n : Int) : Int := if 0 ≤ n ∧ n ≤ 16384 then n / 4 + 2 else 0

mutual
/-- it lies in these cells -/
def Tr.ok (C : List Int) : Tr → Prop
  | .empty a => 1 ≤ a ∧ a ≤ C.length
  | .leaf a k v => 1 ≤ a ∧ a + 1 ≤ C.length ∧ at0 C a = k ∧ at0 C (a + 1) = v
  | .inner a sz sh ch sm ks cs => (1 ≤ a ∧ a + (2 * cs.length + 4) ≤ C.length + 1 ∧ cs.length = ks.length + 1 ∧ 1 ≤ ks.length) ∧ (at0 C a = cs.length ∧ at0 C (a + 1) = sz ∧ at0 C (a + 2) = sh ∧ at0 C (a + 3) = ch ∧ at0 C (a + 4) = sm) ∧
      (sh = 0 ∨ sh = 1) ∧ (-1000000000000 ≤ sz ∧ sz ≤ 1000000000000) ∧ (∀ i (h : i < ks.length), at0 C (a + 5 + i) = ks[i]) ∧ (∀ i (h : i < cs.length), at0 C (a + 4 + cs.length + i) = cs[i].word) ∧ oks C cs
def oks (C : List Int) : List Tr → Prop
  | [] => True
  | t :: cs => t.ok C ∧ oks C cs
end

mutual
def Tr.content : Tr → List Pr
  | .empty _ => []
  | .leaf _ k v => [(k, v)]
  | .inner _ _ _ _ _ _ cs => contents cs
def contents : List Tr → List Pr
  | [] => []
  | t :: cs => t.content ++ contents cs
end

mutual
/-- all keys lie where they belong -/
def Tr.ord (lo hi : Int) : Tr → Prop
  | .empty _ => True
  | .leaf _ k _ => lo ≤ k ∧ k ≤ hi
  | .inner _ _ _ _ _ ks cs => ords lo hi ks cs
def ords (lo hi : Int) : List Int → List Tr → Prop
  | [], [c] => c.ord lo hi
  | k :: ks, c :: cs => lo < k ∧ k ≤ hi ∧ c.ord lo (k - 1) ∧ ords k hi ks cs
  | _, _ => False
end

def setR (T : List Bool) (a n : Nat) : List Bool := (List.range T.length).map fun i => if a ≤ i ∧ i < a + n then true else (T[i]?).getD false
def freeR (T : List Bool) (a n : Nat) : Prop := ∀ i, a ≤ i → i < a + n → T[i]? = some false

mutual
/-- the cells that were gone through, behind it -/
def Tr.marks (T : List Bool) : Tr → List Bool
  | .empty a => setR T a 1
  | .leaf a _ _ => setR T a 2
  | .inner a _ _ _ _ _ cs => markss (setR T a (2 * cs.length + 4)) cs
def markss (T : List Bool) : List Tr → List Bool
  | [] => T
  | t :: cs => markss (t.marks T) cs
end

mutual
/-- none of its cells was gone through yet -/
def Tr.free (T : List Bool) : Tr → Prop
  | .empty a => freeR T a 1
  | .leaf a _ _ => freeR T a 2
  | .inner a _ _ _ _ _ cs => freeR T a (2 * cs.length + 4) ∧ frees (setR T a (2 * cs.length + 4)) cs
def frees (T : List Bool) : List Tr → Prop
  | [] => True
  | t :: cs => t.free T ∧ frees (t.marks T) cs
end

mutual
/-- the slots below it -/
def Tr.spots : Tr → List Pr
  | .empty _ => []
  | .leaf _ _ _ => []
  | .inner a _ _ _ _ _ cs => spotss (a + 4 + cs.length) cs
def spotss (s : Nat) : List Tr → List Pr
  | [] => []
  | t :: cs => ((s : Int), t.word) :: (t.spots ++ spotss (s + 1) cs)
end

mutual
def Tr.busy : Tr → Bool
  | .empty _ => false
  | .leaf _ _ _ => false
  | .inner _ sz sh ch _ _ cs => (decide (sh = 1) || decide (limN sz ≤ ch)) || busys cs
def busys : List Tr → Bool
  | [] => false
  | t :: cs => t.busy || busys cs
end

mutual
def Tr.deep : Tr → Nat
  | .empty _ => 0
  | .leaf _ _ _ => 0
  | .inner _ _ _ _ _ _ cs => 1 + deeps cs
def deeps : List Tr → Nat
  | [] => 0
  | t :: cs => max t.deep (deeps cs)
end

theorem Tr.ind {M : Tr → Prop} (e : ∀ a, M (.empty a)) (l : ∀ a k v, M (.leaf a k v)) (i : ∀ a sz sh ch sm ks cs, (∀ c ∈ cs, M c) → M (.inner a sz sh ch sm ks cs)) : ∀ t, M t := by
  intro t
  exact Tr.rec (motive_1 := M) (motive_2 := fun cs => ∀ c ∈ cs, M c) e l (fun a sz sh ch sm ks cs ih => i a sz sh ch sm ks cs ih) (by simp) (fun h r ih1 ih2 c hc => by
    rcases List.mem_cons.1 hc with rfl | hc
    · exact ih1
    · exact ih2 c hc) t

theorem setR_len (T : List Bool) (a n : Nat) : (setR T a n).length = T.length := by simp [setR]
theorem setR_get {T : List Bool} {a n i : Nat} (hi : i < T.length) : (setR T a n)[i]? = some (if a ≤ i ∧ i < a + n then true else (T[i]?).getD false) := by simp [setR, hi]

theorem markss_len : ∀ (t : Tr) (T : List Bool), (t.marks T).length = T.length := by
  intro t
  induction t using Tr.ind with
  | e a => intro T; exact setR_len _ _ _
  | l a k v => intro T; exact setR_len _ _ _
  | i a sz sh ch sm ks cs ih =>
    intro T
    have key : ∀ (cs : List Tr) (T : List Bool), (∀ c ∈ cs, ∀ T, (c.marks T).length = T.length) → (markss T cs).length = T.length := by
      intro cs
      induction cs with
      | nil => intro T _; rfl
      | cons c cs ihc =>
        intro T h
        show (markss (c.marks T) cs).length = T.length
        rw [ihc _ (fun c hc => h c (List.mem_cons_of_mem _ hc)), h c (by simp)]
    show (markss _ cs).length = _
    rw [key cs _ ih, setR_len]

/-! ### part by part -/

theorem oks_mem {C : List Int} : ∀ {cs : List Tr}, oks C cs → ∀ i (h : i < cs.length), cs[i].ok C
  | t :: cs, ⟨a, b⟩, 0, _ => a
  | t :: cs, ⟨a, b⟩, i + 1, h => oks_mem b i (by simpa using h)
theorem markss_app : ∀ (a b : List Tr) (T : List Bool), markss T (a ++ b) = markss (markss T a) b
  | [], b, T => rfl
  | t :: a, b, T => markss_app a b (t.marks T)
theorem frees_app : ∀ (a b : List Tr) (T : List Bool), frees T (a ++ b) → frees T a ∧ frees (markss T a) b
  | [], b, T, h => ⟨trivial, h⟩
  | t :: a, b, T, ⟨h1, h2⟩ => by
    obtain ⟨h3, h4⟩ := frees_app a b _ h2
    exact ⟨⟨h1, h3⟩, h4⟩
theorem spotss_app : ∀ (a b : List Tr) (s : Nat), spotss s (a ++ b) = spotss s a ++ spotss (s + a.length) b
  | [], b, s => by simp [spotss]
  | t :: a, b, s => by
    simp only [List.cons_append, spotss, spotss_app a b (s + 1), List.length_cons, List.append_assoc]
    rw [show s + 1 + a.length = s + (a.length + 1) by omega]
theorem busys_app : ∀ (a b : List Tr), busys (a ++ b) = (busys a || busys b)
  | [], b => by simp [busys]
  | t :: a, b => by simp [busys, busys_app a b, Bool.or_assoc]
theorem contents_app : ∀ (a b : List Tr), contents (a ++ b) = contents a ++ contents b
  | [], b => by simp [contents]
  | t :: a, b => by simp [contents, contents_app a b]
theorem deeps_app : ∀ (a b : List Tr), deeps (a ++ b) = max (deeps a) (deeps b)
  | [], b => by simp [deeps]
  | t :: a, b => by simp [deeps, deeps_app a b, Nat.max_assoc]
theorem take_one (cs : List Tr) {i : Nat} (h : i < cs.length) : cs.take (i + 1) = cs.take i ++ [cs[i]] := by
  rw [List.take_add_one]; simp [h]
theorem frees_at {T : List Bool} {cs : List Tr} (h : frees T cs) {i : Nat} (hi : i < cs.length) : cs[i].free (markss T (cs.take i)) := by
  have e : cs = cs.take i ++ (cs[i] :: cs.drop (i + 1)) := by simp
  rw [e] at h
  exact (frees_app _ _ _ h).2.1

theorem ords_at {hi : Int} : ∀ {ks : List Int} {cs : List Tr} {lo : Int}, ords lo hi ks cs → ∀ i (h : i < cs.length), cs[i].ord (if i = 0 then lo else (ks[i - 1]?).getD 0) (if i < ks.length then (ks[i]?).getD 0 - 1 else hi)
  | [], [c], lo, h, 0, _ => h
  | k :: ks, c :: cs, lo, ⟨_, _, h3, h4⟩, 0, _ => by simpa using h3
  | k :: ks, c :: cs, lo, ⟨_, _, h3, h4⟩, i + 1, hi' => by
    have := ords_at h4 i (by simpa using hi')
    simp only [List.getElem_cons_succ, Nat.add_sub_cancel, List.length_cons]
    rw [if_neg (by omega)]
    by_cases h0 : i = 0
    · subst h0; simpa using this
    · rw [if_neg h0] at this
      have e : ((k :: ks)[i]?) = ks[i - 1]? := by
        obtain ⟨j, rfl⟩ : ∃ j, i = j + 1 := ⟨i - 1, by omega⟩
        simp
      rw [e]
      simpa using this
theorem ords_keys {hi : Int} : ∀ {ks : List Int} {cs : List Tr} {lo : Int}, ords lo hi ks cs → cs.length = ks.length + 1 ∧ ∀ i (h : i < ks.length), (if i = 0 then lo else (ks[i - 1]?).getD 0) < ks[i] ∧ ks[i] ≤ hi
  | [], [c], lo, h => ⟨rfl, fun i h => by simp at h⟩
  | k :: ks, c :: cs, lo, ⟨h1, h2, h3, h4⟩ => by
    obtain ⟨e, q⟩ := ords_keys h4
    refine ⟨by simp [e], fun i hi' => ?_⟩
    cases i with
    | zero => exact ⟨by simpa using h1, h2⟩
    | succ i =>
      have := q i (by simpa using hi')
      simp only [List.getElem_cons_succ, Nat.add_sub_cancel]
      rw [if_neg (by omega)]
      by_cases h0 : i = 0
      · subst h0; simpa using this
      · rw [if_neg h0] at this
        have e : ((k :: ks)[i]?) = ks[i - 1]? := by
          obtain ⟨j, rfl⟩ : ∃ j, i = j + 1 := ⟨i - 1, by omega⟩
          simp
        rw [e]; exact this
theorem deep_nil (a : Nat) (sz sh ch sm : Int) (ks : List Int) (cs : List Tr) : (Tr.inner a sz sh ch sm ks cs).deep = 1 + deeps cs := rfl
end
end Go.Proofs.YtpeihcpclcibgaaGreat.Ai
/- What words, addresses and cells come to. -/
namespace Go.Proofs.YtpeihcpclcibgaaGreat.Ai
open Go.Proofs.YtpeihcpclcibgaaGreat
noncomputable section
open Go.RowKit
structure HasV (tab : Nat → Option AFunc) : Prop where
  v58 : tab 14 = some af14
  v76 : tab 40 = some af40
  v91 : tab 15 = some af15
  v108 : tab 13 = some af13
  v118 : tab 16 = some af16
  v121 : tab 67 = some af67
  v130 : tab 185 = some af185
  v131 : tab 68 = some af68
  v137 : tab 116 = some af116
  v138 : tab 117 = some af117
  v141 : tab 25 = some af25
  v142 : tab 161 = some af161
  v69 : tab 80 = some af80
  v128 : tab 182 = some af182
  v112 : tab 126 = some af126
  v135 : tab 233 = some af233
  v126 : tab 180 = some af180

theorem hasV : HasV tabT.get := ⟨by kernel_rfl, by kernel_rfl, by kernel_rfl, by kernel_rfl, by kernel_rfl, by kernel_rfl, by kernel_rfl, by kernel_rfl, by kernel_rfl, by kernel_rfl, by kernel_rfl, by kernel_rfl, by kernel_rfl, by kernel_rfl, by kernel_rfl, by kernel_rfl, by kernel_rfl⟩

theorem and7 (a k : Nat) (h1 : a ≤ 65536) (h2 : k < 8) : IntKind.i64.wrap ((BitVec.ofInt 64 ((a : Int) * 8 + k) &&& BitVec.ofInt 64 7).toNat : Int) = k := by
  have e1 : ((a : Int) * 8 + k) = ((a * 8 + k : Nat) : Int) := by simp
  have e7 : (BitVec.ofInt 64 7) = BitVec.ofNat 64 7 := by decide
  rw [e1, e7]
  simp only [BitVec.ofInt_natCast, BitVec.toNat_and, BitVec.toNat_ofNat]
  rw [Nat.mod_eq_of_lt (show a * 8 + k < 2 ^ 64 by omega), Nat.mod_eq_of_lt (show 7 < 2 ^ 64 by decide)]
  have := Nat.and_two_pow_sub_one_eq_mod (a * 8 + k) 3
  simp only [Nat.reducePow, Nat.reduceSub] at this
  rw [this, IntWalk.i64_in _ (by omega)]
  omega

section
variable {P : Program} {tab : Nat → Option AFunc} (hT : TabOk P tab) (V : HasV tab)
include hT V

theorem parts_spec (H : Has tab) (h : Heap) (a k : Nat) (a1 : 1 ≤ a) (a2 : a ≤ 65536) (k1 : 1 ≤ k) (k2 : k ≤ 5) : FSpec P 67 [I ((a : Int) * 8 + k)] h fun v h' => v = .tuple #[I k, I a, .bool true] ∧ h' = h := by
  refine fspec_cwf hT V.v121 rfl ?_
  have c1 : ((a : Int) * 8 + k < 0) = False := by simp; omega
  have c2 : ((a : Int) * 8 + k > 524296) = False := by simp; omega
  have e1 := and7 a k a2 (by omega)
  have e2 : Int.fdiv ((a : Int) * 8 + k) 8 = a := by
    rw [Int.fdiv_eq_ediv_of_nonneg _ (by omega)]; omega
  obtain ⟨_, h1, F, rfl, rfl⟩ := may_spec hT H (k : Int) (a : Int) h (by omega) (by omega) (by omega) (by omega)
  simp only [af67, cwf_seq, cwf_ops, c_false, cwf_skip, andThen_normal, owf_nil, o_p, owf_call, o_on, bo_eq, optQ_some, pop, popQ, ev, evs, putA, putArgs, look_put, isB_false, abinF_eq, abin, Int.reduceLT, Int.reduceToNat, IntKind.bits, min364, Int.reducePow, decide_true, decide_false, cond_true, cond_false, ite_true, ite_false, Bool.not_false, Nat.reduceEqDiff, c1, c2, e2]
  erw [e1]
  refine ⟨_, _, F, ?_⟩
  simp only [cwf_seq, cwf_ops, cwf_ret, c_false, cwf_skip, andThen_normal, fnQ_ret, owf_nil, o_p, behind_eq, bo_eq, optQ_some, pop, popQ, ev, putA, look_put, isB_false, resAll, resA, mkRes2, ite_true, ite_false, Bool.not_true, Bool.not_false, Nat.reduceEqDiff, Option.some.injEq, exists_eq_left', and_true]

theorem kind_spec (H : Has tab) (h : Heap) (a k : Nat) (a1 : 1 ≤ a) (a2 : a ≤ 65536) (k1 : 1 ≤ k) (k2 : k ≤ 5) : FSpec P 13 [I ((a : Int) * 8 + k)] h fun v h' => v = I k ∧ h' = h := by
  refine fspec_cwf hT V.v108 rfl ?_
  obtain ⟨_, h1, F, rfl, rfl⟩ := parts_spec hT V H h a k a1 a2 k1 k2
  simp only [af13, cwf_seq, cwf_ops, andThen_normal, owf_nil, o_p, owf_call, bo_eq, optQ_some, pop, popQ, ev, evs, putA, putArgs, look_put, ite_true, ite_false, Nat.reduceEqDiff]
  refine ⟨_, _, F, ?_⟩
  simp only [cwf_seq, cwf_ops, cwf_ret, andThen_normal, fnQ_ret, owf_nil, o_p, behind_eq, bo_eq, optQ_some, pop, popQ, ev, putA, look_put, resAll, resA, mkRes1, ite_true, ite_false, Nat.reduceEqDiff, Option.some.injEq, exists_eq_left', and_true, List.getElem?_cons_zero, List.getElem?_cons_succ]

theorem refat_spec (H : Has tab) (h : Heap) (a k : Nat) (a1 : 1 ≤ a) (a2 : a ≤ 65536) (k1 : 1 ≤ k) (k2 : k ≤ 5) : FSpec P 15 [I ((a : Int) * 8 + k)] h fun v h' => v = I a ∧ h' = h := by
  refine fspec_cwf hT V.v91 rfl ?_
  obtain ⟨_, h1, F, rfl, rfl⟩ := parts_spec hT V H h a k a1 a2 k1 k2
  simp only [af15, cwf_seq, cwf_ops, andThen_normal, owf_nil, o_p, owf_call, bo_eq, optQ_some, pop, popQ, ev, evs, putA, putArgs, look_put, ite_true, ite_false, Nat.reduceEqDiff]
  refine ⟨_, _, F, ?_⟩
  simp only [cwf_seq, cwf_ops, cwf_ret, andThen_normal, fnQ_ret, owf_nil, o_p, behind_eq, bo_eq, optQ_some, pop, popQ, ev, putA, look_put, resAll, resA, mkRes1, ite_true, ite_false, Nat.reduceEqDiff, Option.some.injEq, exists_eq_left', and_true, List.getElem?_cons_zero, List.getElem?_cons_succ]

theorem at_spec {h : Heap} {b : Nat} {u : Option Nat} {C : List Int} {z c o r : Int} (m : MemAt h b u C z c o r) (a : Nat) (ha : a < 1000000) : FSpec P 14 [.pointer (some ⟨b, 0, none⟩), I a] h fun v h' => v = I (at0 C a) ∧ h' = h := by
  refine fspec_cwf hT V.v58 rfl ?_
  unfold at0
  by_cases h0 : a = 0
  · have c1 : ((a : Int) < 1) = True := by simp; omega
    rw [if_pos h0]
    simp only [af14, cwf_seq, cwf_ops, cwf_ret, c_true, andThen_normal, andThen_ret, fnQ_ret, owf_nil, o_p, o_off, bo_eq, optQ_some, pop, popQ, ev, putA, putArgs, look_put, isB_true, isB_false, abinF_eq, abin, resAll, resA, mkRes1, decide_true, cond_true, ite_true, ite_false, Bool.not_true, Nat.reduceEqDiff, Nat.zero_add, Option.some.injEq, exists_eq_left', and_true, c1]
  · have c1 : ((a : Int) < 1) = False := by simp; omega
    rw [if_neg h0]
    by_cases h1 : a ≤ C.length
    · have c2 : ((a : Int) > C.length) = False := by simp; omega
      have w : wrapF .i64 ((a : Int) - 1) = ((a - 1 : Nat) : Int) := by rw [wrapI] <;> omega
      cases u with
      | none => have := m.non rfl; rw [this] at h1; simp at h1; omega
      | some x =>
        have c3 : (((a - 1 : Nat) : Int) < C.length) = True := by simp; omega
        have r1 : h.rd x (a - 1) = some (I ((C[a - 1]?).getD 0)) := by
          rw [rd_of (m.use x rfl).1]
          show (C.map I)[a - 1]? = _
          rw [List.getElem?_map, List.getElem?_eq_getElem (by omega)]; rfl
        have r0 : h.rd b 0 = some (.slice (some ⟨x, 0, none⟩) C.length C.length) := m.rd0
        simp only [af14, cwf_seq, cwf_ops, cwf_ret, c_false, cwf_skip, andThen_normal, fnQ_ret, owf_nil, o_p, o_r, o_on, bo_eq, optQ_some, pop, popQ, rop_load1, ldV_ptr, ev, putA, putArgs, look_put, isB_false, abinF_eq, abin, resAll, resA, mkRes1, Int.toNat_natCast, Int.natCast_nonneg, Nat.mul_one, Nat.add_zero, inB_eq, decide_true, decide_false, cond_true, cond_false, ite_true, ite_false, Bool.and_true, Bool.not_false, Nat.reduceEqDiff, Nat.zero_add, Option.some.injEq, exists_eq_left', and_true, c1, r0, c2, w, c3, r1]
    · have c2 : ((a : Int) > C.length) = True := by simp; omega
      rw [List.getElem?_eq_none (by omega)]
      simp only [af14, cwf_seq, cwf_ops, cwf_ret, c_true, andThen_normal, andThen_ret, fnQ_ret, owf_nil, o_p, o_r, o_on, bo_eq, optQ_some, pop, popQ, rop_load1, ldV_ptr, ev, putA, putArgs, look_put, isB_true, isB_false, abinF_eq, abin, resAll, resA, mkRes1, Nat.add_zero, decide_true, decide_false, cond_true, cond_false, ite_true, ite_false, Bool.not_false, Nat.reduceEqDiff, Nat.zero_add, Option.some.injEq, exists_eq_left', and_true, c1, m.rd0, c2]
      rfl

theorem near1_spec (h : Heap) (n : Int) (n0 : 0 ≤ n) (n1 : n ≤ 1099511627776) : FSpec P 117 [I n] h fun v h' => v = .bool false ∧ h' = h := by
  refine fspec_cwf hT V.v138 rfl ?_
  have c1 : (n < 0) = False := by simp; omega
  have c2 : (n > 1099511627776) = False := by simp; omega
  simp only [af117, cwf_seq, cwf_ops, cwf_ret, andThen_normal, fnQ_ret, owf_nil, o_p, o_on, bo_eq, optQ_some, pop, popQ, ev, putA, putArgs, look_put, isB_false, abinF_eq, abin, resAll, resA, mkRes1, decide_true, decide_false, cond_true, cond_false, ite_true, ite_false, Bool.not_false, Nat.reduceEqDiff, Option.some.injEq, exists_eq_left', and_true, c1, c2]

theorem near_spec {h : Heap} {x n : Nat} {L : List Int} (r : RdAt h x 0 1 n n (L.map I)) (hn : n < 1000) (hL : ∀ a ∈ L, 0 ≤ a ∧ a ≤ 1099511627776) : FSpec P 68 [.slice (some ⟨x, 0, none⟩) n n] h fun v h' => v = .bool true ∧ h' = h := by
  have hl : L.length = n := by have := r.len; simpa using this
  have F142 : FSpec P 161 [.slice (some ⟨x, 0, none⟩) n n, .func (.func 117) #[] #[]] h fun v h' => v = I (-1) ∧ h' = h := by
    refine fspec_cwf hT V.v142 rfl ?_
    simp only [af161, cwf_seq, cwf_ops, cwf_block, cwf_loop, andThen_normal, owf_nil, o_p, bo_eq, optQ_some, pop, popQ, ev, putA, putArgs, look_put, Int.reduceNeg, cond_false, ite_true, ite_false, Nat.reduceEqDiff, Nat.zero_add]
    refine cw_loop (fun k ts h' => ∃ i : Nat, k = n - i ∧ i ≤ n ∧ h' = h ∧ look ts 0 = .slice (some ⟨x, 0, none⟩) n n ∧ look ts 1 = .func (.func 117) #[] #[] ∧ look ts 7 = I n ∧ look ts 8 = I i) ?_ (n := n) ⟨0, rfl, Nat.zero_le _, rfl, by simp only [look_put, ite_true, ite_false, Nat.reduceEqDiff], by simp only [look_put, ite_true, ite_false, Nat.reduceEqDiff], by simp only [look_put, ite_true, ite_false, Nat.reduceEqDiff], by simp only [look_put, Int.cast_ofNat_Int, ite_true, ite_false, Nat.reduceEqDiff] <;> rfl⟩
    rintro k ts h' ⟨i, rfl, i2, rfl, t0, t1, t7, t8⟩
    refine cwf_cw ?_
    by_cases hi : i < n
    · have ci : ((i : Int) < n) = True := by simp [hi]
      have wi : wrapF .i64 ((i : Int) + 1) = ((i + 1 : Nat) : Int) := by rw [wrapI] <;> omega
      have rk : h'.rd x i = some (I (L[i]'(by omega))) := by
        have := r.rd (i := i) (by omega)
        rw [Nat.zero_add] at this
        rw [this]; simp
      have hq := hL (L[i]'(by omega)) (List.getElem_mem _)
      obtain ⟨_, h1, F, rfl, rfl⟩ := near1_spec hT V h' (L[i]'(by omega)) hq.1 hq.2
      simp only [cwf_seq, cwf_ops, c_true, cwf_skip, cwf_block, andThen_normal, owf_nil, o_p, o_r, bo_eq, optQ_some, pop, popQ, rop_load1, ldV_ptr, ev, evs, putA, look_put, isB_true, abinF_eq, abin, Int.toNat_natCast, Int.natCast_nonneg, Nat.mul_one, Int.reduceNeg, inB_eq, decide_true, cond_true, ite_true, ite_false, Bool.and_true, Nat.reduceEqDiff, Nat.zero_add, o_callv, callV_f, List.nil_append, List.append_nil, t0, t1, t7, t8, ci, rk]
      refine ⟨_, _, F, ?_⟩
      simp only [cwf_ops, c_false, cwf_skip, andThen_normal, blockQ_normal, roundQ_normal, owf_nil, o_p, behind_eq, bo_eq, optQ_some, pop, popQ, ev, putA, look_put, isB_false, abinF_eq, abin, Int.reduceNeg, decide_true, cond_true, ite_true, ite_false, Bool.not_false, Nat.reduceEqDiff, true_and, t0, t1, t7, t8, wi]
      exact ⟨n - (i + 1), by omega, i + 1, rfl, by omega, rfl⟩
    · have ci : ((i : Int) < n) = False := by simp; omega
      simp only [cwf_seq, cwf_ops, cwf_ret, c_false, cwf_exit, andThen_normal, andThen_exit, blockQ_exit, roundQ_exit, fnQ_ret, owf_nil, o_p, bo_eq, optQ_some, pop, popQ, ev, putA, look_put, isB_false, abinF_eq, abin, resAll, resA, mkRes1, Int.reduceNeg, decide_true, decide_false, cond_true, ite_true, ite_false, Bool.not_false, Nat.reduceEqDiff, Option.some.injEq, exists_eq_left', and_true, t7, t8, ci]
  obtain ⟨_, h1, F1, rfl, rfl⟩ := F142
  have F137 : FSpec P 116 [.slice (some ⟨x, 0, none⟩) n n, .func (.func 117) #[] #[]] h1 fun v h' => v = .bool false ∧ h' = h1 := by
    refine fspec_cwf hT V.v137 rfl ?_
    have c1 : ((-1 : Int) ≥ 0) = False := by simp
    simp only [af116, cwf_seq, cwf_ops, andThen_normal, owf_nil, o_p, owf_call, bo_eq, optQ_some, pop, popQ, ev, evs, putA, putArgs, look_put, ite_true, ite_false, Nat.reduceEqDiff, Nat.zero_add]
    refine ⟨_, _, F1, ?_⟩
    simp only [cwf_ret, andThen_normal, fnQ_ret, owf_nil, o_p, behind_eq, bo_eq, optQ_some, pop, popQ, ev, putA, look_put, abinF_eq, abin, resAll, resA, mkRes1, Int.reduceNeg, decide_true, decide_false, cond_true, ite_true, ite_false, Nat.reduceEqDiff, Option.some.injEq, exists_eq_left', and_true, c1]
  obtain ⟨_, h1, F2, rfl, rfl⟩ := F137
  refine fspec_cwf hT V.v131 rfl ?_
  simp only [af68, cwf_seq, cwf_ops, andThen_normal, owf_nil, o_p, owf_call, bo_eq, optQ_some, pop, popQ, ev, evs, putA, putArgs, look_put, ite_true, ite_false, Nat.reduceEqDiff]
  refine ⟨_, _, F2, ?_⟩
  simp only [cwf_ret, andThen_normal, fnQ_ret, owf_nil, o_p, behind_eq, bo_eq, optQ_some, pop, popQ, ev, putA, look_put, resAll, resA, mkRes1, ite_true, ite_false, Bool.not_false, Nat.reduceEqDiff, Option.some.injEq, exists_eq_left', and_true]

theorem keyat_spec (h : Heap) (a i : Nat) (ha : a < 1000000) (hi : i < 1000000) : FSpec P 185 [I a, I i] h fun v h' => v = I ((a + 4 + i : Nat) : Int) ∧ Same h h' (fun _ => False) := by
  refine fspec_cwf hT V.v130 rfl ?_
  have r := RdAt.fresh h [I (a : Int), I (i : Int)] 2 1 true false rfl
  have s : Same h (h.new ⟨[I (a : Int), I (i : Int)], 2, 1, true, false⟩) (fun _ => False) := Same.new
  generalize hh : h.new ⟨[I (a : Int), I (i : Int)], 2, 1, true, false⟩ = k at s
  have r' : RdAt k h.next 0 1 2 2 ([(a : Int), (i : Int)].map I) := hh ▸ r
  obtain ⟨_, k, F, rfl, rfl⟩ := near_spec hT V r' (by omega) (by intro b hb; simp at hb; rcases hb with rfl | rfl <;> omega)
  have w1 : wrapF .i64 ((a : Int) + 4) = ((a + 4 : Nat) : Int) := by rw [wrapI] <;> omega
  have w2 : wrapF .i64 (((a + 4 : Nat) : Int) + i) = ((a + 4 + i : Nat) : Int) := by rw [wrapI] <;> omega
  simp only [af185, cwf_seq, cwf_ops, andThen_normal, owf_nil, o_p, o_e, owf_call, behind_eq, bo_eq, optQ_some, opt2_some, pop, popQ, ev, evs, putA, putArgs, look_put, eop_buildS, bldS_some, evP_nil, evP_cons, fillA_nil, fillA_one, List.length_cons, List.length_nil, List.set_cons_zero, List.set_cons_succ, Nat.reduceLT, Nat.lt_add_one, Nat.mul_one, scalar_int, ite_true, ite_false, Nat.reduceEqDiff, Nat.reduceAdd, Nat.zero_add, hh]
  refine ⟨_, _, F, ?_⟩
  simp only [cwf_seq, cwf_ops, cwf_ret, c_false, cwf_skip, andThen_normal, fnQ_ret, owf_nil, o_p, behind_eq, bo_eq, optQ_some, pop, popQ, ev, putA, look_put, isB_false, abinF_eq, abin, resAll, resA, mkRes1, decide_true, cond_true, ite_true, ite_false, Bool.not_true, Bool.not_false, Nat.reduceEqDiff, Option.some.injEq, exists_eq_left', true_and, w1, w2]
  rw [tail_marks h k s.marks]
  exact s

theorem childat_spec (h : Heap) (a d i : Nat) (ha : a < 1000000) (hd : d < 1000000) (hi : i < 1000000) : FSpec P 16 [I a, I d, I i] h fun v h' => v = I ((a + 4 + d + i : Nat) : Int) ∧ Same h h' (fun _ => False) := by
  refine fspec_cwf hT V.v118 rfl ?_
  have r := RdAt.fresh h [I (a : Int), I (d : Int), I (i : Int)] 3 1 true false rfl
  have s : Same h (h.new ⟨[I (a : Int), I (d : Int), I (i : Int)], 3, 1, true, false⟩) (fun _ => False) := Same.new
  generalize hh : h.new ⟨[I (a : Int), I (d : Int), I (i : Int)], 3, 1, true, false⟩ = k at s
  have r' : RdAt k h.next 0 1 3 3 ([(a : Int), (d : Int), (i : Int)].map I) := hh ▸ r
  obtain ⟨_, k, F, rfl, rfl⟩ := near_spec hT V r' (by omega) (by intro b hb; simp at hb; rcases hb with rfl | rfl | rfl <;> omega)
  have w1 : wrapF .i64 ((a : Int) + 4) = ((a + 4 : Nat) : Int) := by rw [wrapI] <;> omega
  have w2 : wrapF .i64 (((a + 4 : Nat) : Int) + d) = ((a + 4 + d : Nat) : Int) := by rw [wrapI] <;> omega
  have w3 : wrapF .i64 (((a + 4 + d : Nat) : Int) + i) = ((a + 4 + d + i : Nat) : Int) := by rw [wrapI] <;> omega
  simp only [af16, cwf_seq, cwf_ops, andThen_normal, owf_nil, o_p, o_e, owf_call, behind_eq, bo_eq, optQ_some, opt2_some, pop, popQ, ev, evs, putA, putArgs, look_put, eop_buildS, bldS_some, evP_nil, evP_cons, fillA_nil, fillA_one, List.length_cons, List.length_nil, List.set_cons_zero, List.set_cons_succ, Nat.reduceLT, Nat.lt_add_one, Nat.mul_one, scalar_int, ite_true, ite_false, Nat.reduceEqDiff, Nat.reduceAdd, Nat.zero_add, hh]
  refine ⟨_, _, F, ?_⟩
  simp only [cwf_seq, cwf_ops, cwf_ret, c_false, cwf_skip, andThen_normal, fnQ_ret, owf_nil, o_p, behind_eq, bo_eq, optQ_some, pop, popQ, ev, putA, look_put, isB_false, abinF_eq, abin, resAll, resA, mkRes1, decide_true, cond_true, ite_true, ite_false, Bool.not_true, Bool.not_false, Nat.reduceEqDiff, Option.some.injEq, exists_eq_left', true_and, w1, w2, w3]
  rw [tail_marks h k s.marks]
  exact s

theorem limit_spec (h : Heap) (n : Int) (h1 : -1000000000000 ≤ n) (h2 : n ≤ 1000000000000) : FSpec P 25 [I n] h fun v h' => v = I (limN n) ∧ h' = h := by
  have F69 : FSpec P 80 [I n] h fun v h' => v = .bool (decide (0 ≤ n ∧ n ≤ 16384)) ∧ h' = h := by
    refine fspec_cwf hT V.v69 rfl ?_
    by_cases c1 : n ≥ 0
    · by_cases c2 : n ≤ 16384
      · have e : (0 ≤ n ∧ n ≤ 16384) = True := by simp; omega
        simp only [af80, cwf_seq, cwf_ops, cwf_ret, andThen_normal, fnQ_ret, owf_nil, o_p, o_on, bo_eq, optQ_some, pop, popQ, ev, putA, putArgs, look_put, isB_true, abinF_eq, abin, resAll, resA, mkRes1, decide_true, cond_true, ite_true, ite_false, Nat.reduceEqDiff, Option.some.injEq, exists_eq_left', and_true, c1, c2]
      · have e : (0 ≤ n ∧ n ≤ 16384) = False := by simp; omega
        simp only [af80, cwf_seq, cwf_ops, cwf_ret, andThen_normal, fnQ_ret, owf_nil, o_p, o_on, bo_eq, optQ_some, pop, popQ, ev, putA, putArgs, look_put, isB_true, abinF_eq, abin, resAll, resA, mkRes1, decide_true, decide_false, cond_true, ite_true, ite_false, Nat.reduceEqDiff, Option.some.injEq, exists_eq_left', true_and, and_true, c1, c2]
    · have e : (0 ≤ n ∧ n ≤ 16384) = False := by simp; omega
      simp only [af80, cwf_seq, cwf_ops, cwf_ret, andThen_normal, fnQ_ret, owf_nil, o_p, o_off, bo_eq, optQ_some, pop, popQ, ev, putA, putArgs, look_put, isB_true, abinF_eq, abin, resAll, resA, mkRes1, decide_true, decide_false, cond_true, cond_false, ite_true, ite_false, Nat.reduceEqDiff, Option.some.injEq, exists_eq_left', and_true, c1] <;> simp
  obtain ⟨_, k, F, rfl, rfl⟩ := F69
  refine fspec_cwf hT V.v141 rfl ?_
  simp only [af25, cwf_seq, cwf_ops, andThen_normal, owf_nil, o_p, owf_call, bo_eq, optQ_some, pop, popQ, ev, evs, putA, putArgs, look_put, ite_true, ite_false, Nat.reduceEqDiff]
  refine ⟨_, _, F, ?_⟩
  unfold limN
  by_cases hc : 0 ≤ n ∧ n ≤ 16384
  · have e : (0 ≤ n ∧ n ≤ 16384) = True := by simp [hc]
    have q : n.tdiv 4 = n / 4 := Int.tdiv_eq_ediv_of_nonneg hc.1
    have c4 : ((4 : Int) = 0) = False := by simp
    have w1 : wrapF .i64 (n / 4) = n / 4 := wrapI (by omega) (by omega)
    have w2 : wrapF .i64 (n / 4 + 2) = n / 4 + 2 := wrapI (by omega) (by omega)
    rw [if_pos hc]
    simp only [cwf_seq, cwf_ops, cwf_ret, c_false, cwf_skip, andThen_normal, fnQ_ret, owf_nil, o_p, behind_eq, bo_eq, optQ_some, pop, popQ, ev, putA, look_put, isB_false, abinF_eq, abin, resAll, resA, mkRes1, decide_true, decide_false, cond_true, cond_false, ite_true, ite_false, Bool.not_true, Bool.not_false, Nat.reduceEqDiff, Option.some.injEq, exists_eq_left', and_true, e, q, c4, w1, w2]
  · have e : (0 ≤ n ∧ n ≤ 16384) = False := by simp; omega
    rw [if_neg hc]
    simp only [cwf_seq, cwf_ops, cwf_ret, c_true, andThen_normal, andThen_ret, fnQ_ret, owf_nil, o_p, behind_eq, bo_eq, optQ_some, pop, popQ, ev, putA, look_put, isB_true, resAll, resA, mkRes1, decide_false, ite_true, ite_false, Bool.not_false, Nat.reduceEqDiff, Option.some.injEq, exists_eq_left', and_true, e]

/-- what stands in a slot in which nothing is under way -/
theorem logic_spec (H : Has tab) {h : Heap} {b : Nat} {u : Option Nat} {C : List Int} {z c o r : Int} (m : MemAt h b u C z c o r) (s : Nat) (hs : s < 1000000) {a k : Nat} (a1 : 1 ≤ a) (a2 : a ≤ 65536) (k1 : 1 ≤ k) (k2 : k ≤ 4) (hw : at0 C s = (a : Int) * 8 + k) : FSpec P 40 [.pointer (some ⟨b, 0, none⟩), I s] h fun v h' => v = I ((a : Int) * 8 + k) ∧ h' = h := by
  refine fspec_cwf hT V.v76 rfl ?_
  obtain ⟨_, h1, F1, rfl, rfl⟩ := at_spec hT V m s hs
  obtain ⟨_, h1, F2, rfl, rfl⟩ := kind_spec hT V H h1 a k a1 a2 k1 (by omega)
  have c1 : ((k : Int) != 5) = true := by simp; omega
  rw [hw] at F1
  simp only [af40, cwf_seq, cwf_ops, andThen_normal, owf_nil, o_p, owf_call, bo_eq, optQ_some, pop, popQ, ev, evs, putA, putArgs, look_put, ite_true, ite_false, Nat.reduceEqDiff, Nat.zero_add]
  refine ⟨_, _, F1, ?_⟩
  simp only [cwf_seq, cwf_ops, andThen_normal, owf_nil, o_p, owf_call, behind_eq, bo_eq, optQ_some, pop, popQ, ev, evs, putA, look_put, ite_true, ite_false, Nat.reduceEqDiff]
  refine ⟨_, _, F2, ?_⟩
  simp only [cwf_seq, cwf_ops, cwf_ret, c_true, andThen_normal, andThen_ret, fnQ_ret, owf_nil, o_p, behind_eq, bo_eq, optQ_some, pop, popQ, ev, putA, look_put, isB_true, abinF_eq, abin, resAll, resA, mkRes1, decide_true, cond_true, ite_true, ite_false, Nat.reduceEqDiff, Option.some.injEq, exists_eq_left', and_true, c1]

end
end
end Go.Proofs.YtpeihcpclcibgaaGreat.Ai
/- What is kept of a survey; a record's cells are taken. -/
namespace Go.Proofs.YtpeihcpclcibgaaGreat.Ai
open Go.Proofs.YtpeihcpclcibgaaGreat
noncomputable section
open Go.RowKit
structure HasV2 (tab : Nat → Option AFunc) : Prop where
  v110 : tab 124 = some af124

theorem hasV2 : HasV2 tabT.get := ⟨by kernel_rfl⟩

/-- a survey of a memory: what was gone through, the slots, is something under way -/
structure Vw (h : Heap) (bt bm ut : Nat) (us um : Option Nat) (C : List Int) (z c o r : Int) (T : List Bool) (Sp : List Pr) (bs : Bool) : Prop where
  mem : MemAt h bm um C z c o r
  blk : h.blks.get bt = some ⟨[.pointer (some ⟨bm, 0, none⟩), .slice (some ⟨ut, 0, none⟩) T.length T.length, ownSl us Sp.length, .slice none 0 0, .bool bs], 5, 5, true, false⟩
  tk : h.blks.get ut = some ⟨T.map .bool, T.length * 1, 1, true, false⟩
  sp : OwnAt h us 2 Sp.length (flat Sp)
  lt : bt < h.next ∧ ut < h.next
  ne : bt ≠ bm ∧ ut ≠ bm ∧ ut ≠ bt ∧ (∀ y, um = some y → y ≠ bt ∧ y ≠ ut) ∧ ∀ y, us = some y → y ≠ bt ∧ y ≠ ut ∧ y ≠ bm ∧ um ≠ some y

abbrev VwS (bt ut : Nat) (us : Option Nat) (j : Nat) : Prop := j = bt ∨ j = ut ∨ us = some j

theorem Vw.same {h h' : Heap} {bt bm ut : Nat} {us um : Option Nat} {C : List Int} {z c o r : Int} {T : List Bool} {Sp : List Pr} {bs : Bool} (w : Vw h bt bm ut us um C z c o r T Sp bs) (m : Same h h' (fun _ => False)) : Vw h' bt bm ut us um C z c o r T Sp bs :=
  ⟨w.mem.same m (fun x => x) (fun _ _ x => x), by rw [m.get bt w.lt.1 (fun x => x)]; exact w.blk, by rw [m.get ut w.lt.2 (fun x => x)]; exact w.tk, w.sp.same m (fun _ _ x => x), ⟨Nat.lt_of_lt_of_le w.lt.1 m.next, Nat.lt_of_lt_of_le w.lt.2 m.next⟩, w.ne⟩

theorem setR_zero (T : List Bool) (a : Nat) : setR T a 0 = T := by
  apply List.ext_getElem?
  intro i
  by_cases h : i < T.length
  · rw [setR_get h, if_neg (by omega), List.getElem?_eq_getElem h]; rfl
  · rw [List.getElem?_eq_none (by rw [setR_len]; omega), List.getElem?_eq_none (by omega)]

theorem setR_set (T : List Bool) (a i : Nat) (h : a + i < T.length) : (setR T a i).set (a + i) true = setR T a (i + 1) := by
  apply List.ext_getElem?
  intro j
  rw [List.getElem?_set, setR_len]
  by_cases hj : j < T.length
  · rw [setR_get hj, setR_get hj]
    by_cases e : a + i = j
    · rw [if_pos e, if_pos (by omega), if_pos (by omega)]
    · rw [if_neg e]
      by_cases q : a ≤ j ∧ j < a + i
      · rw [if_pos q, if_pos (by omega)]
      · rw [if_neg q, if_neg (by omega)]
  · rw [if_neg (by omega), List.getElem?_eq_none (by rw [setR_len]; omega), List.getElem?_eq_none (by rw [setR_len]; omega)]

section
variable {P : Program} {tab : Nat → Option AFunc} (hT : TabOk P tab) (V : HasV tab)
include hT V

theorem nobool_spec {h : Heap} {x p n cap : Nat} {T : List Bool} (r : RdAt h x p 1 n cap (T.map .bool)) (hT2 : ∀ b ∈ T, b = false) (hn : n < 1000000) : FSpec P 180 [.slice (some ⟨x, p, none⟩) n cap, .bool true] h fun v h' => v = .bool false ∧ h' = h := by
  have hl : T.length = n := by have := r.len; simpa using this
  have F135 : FSpec P 233 [.slice (some ⟨x, p, none⟩) n cap, .bool true] h fun v h' => v = I (-1) ∧ h' = h := by
    refine fspec_cwf hT V.v135 rfl ?_
    simp only [af233, cwf_seq, cwf_ops, cwf_block, cwf_loop, andThen_normal, owf_nil, o_p, bo_eq, optQ_some, pop, popQ, ev, putA, putArgs, look_put, Int.reduceNeg, cond_false, ite_true, ite_false, Nat.reduceEqDiff, Nat.zero_add]
    refine cw_loop (fun k ts h' => ∃ i : Nat, k = n - i ∧ i ≤ n ∧ h' = h ∧ look ts 0 = .slice (some ⟨x, p, none⟩) n cap ∧ look ts 1 = .bool true ∧ look ts 7 = I n ∧ look ts 8 = I i) ?_ (n := n) ⟨0, rfl, Nat.zero_le _, rfl, by simp only [look_put, ite_true, ite_false, Nat.reduceEqDiff], by simp only [look_put, ite_true, ite_false, Nat.reduceEqDiff], by simp only [look_put, ite_true, ite_false, Nat.reduceEqDiff], by simp only [look_put, Int.cast_ofNat_Int, ite_true, ite_false, Nat.reduceEqDiff] <;> rfl⟩
    rintro k ts h' ⟨i, rfl, i2, rfl, t0, t1, t7, t8⟩
    refine cwf_cw ?_
    by_cases hi : i < n
    · have ci : ((i : Int) < n) = True := by simp [hi]
      have wi : wrapF .i64 ((i : Int) + 1) = ((i + 1 : Nat) : Int) := by rw [wrapI] <;> omega
      have hb := hT2 (T[i]'(by omega)) (List.getElem_mem _)
      have rk : h'.rd x (p + i) = some (.bool false) := by
        rw [r.rd (i := i) (by omega), List.getElem?_map, List.getElem?_eq_getElem (show i < T.length by omega), Option.map_some, hb]
      have ct : ((true : Bool) == false) = false := rfl
      simp only [cwf_seq, cwf_ops, c_true, c_false, cwf_skip, cwf_block, andThen_normal, blockQ_normal, roundQ_normal, owf_nil, o_p, o_r, bo_eq, optQ_some, pop, popQ, rop_load1, ldV_ptr, ev, putA, look_put, isB_true, isB_false, abinF_eq, abin, Int.toNat_natCast, Int.natCast_nonneg, Nat.mul_one, Int.reduceNeg, inB_eq, decide_true, cond_true, ite_true, ite_false, Bool.and_true, Bool.not_false, Nat.reduceEqDiff, true_and, t0, t1, t7, t8, ci, rk, ct, wi]
      exact ⟨n - (i + 1), by omega, i + 1, rfl, by omega, rfl⟩
    · have ci : ((i : Int) < n) = False := by simp; omega
      simp only [cwf_seq, cwf_ops, cwf_ret, c_false, cwf_exit, andThen_normal, andThen_exit, blockQ_exit, roundQ_exit, fnQ_ret, owf_nil, o_p, bo_eq, optQ_some, pop, popQ, ev, putA, look_put, isB_false, abinF_eq, abin, resAll, resA, mkRes1, Int.reduceNeg, decide_true, decide_false, cond_true, ite_true, ite_false, Bool.not_false, Nat.reduceEqDiff, Option.some.injEq, exists_eq_left', and_true, t7, t8, ci]
  obtain ⟨_, h1, F1, rfl, rfl⟩ := F135
  refine fspec_cwf hT V.v126 rfl ?_
  have c1 : ((-1 : Int) ≥ 0) = False := by simp
  simp only [af180, cwf_seq, cwf_ops, andThen_normal, owf_nil, o_p, owf_call, bo_eq, optQ_some, pop, popQ, ev, evs, putA, putArgs, look_put, ite_true, ite_false, Nat.reduceEqDiff, Nat.zero_add]
  refine ⟨_, _, F1, ?_⟩
  simp only [cwf_ret, andThen_normal, fnQ_ret, owf_nil, o_p, behind_eq, bo_eq, optQ_some, pop, popQ, ev, putA, look_put, abinF_eq, abin, resAll, resA, mkRes1, Int.reduceNeg, decide_true, decide_false, cond_true, ite_true, ite_false, Nat.reduceEqDiff, Option.some.injEq, exists_eq_left', and_true, c1]

theorem take_spec (V2 : HasV2 tab) {h : Heap} {bt bm ut : Nat} {us um : Option Nat} {C : List Int} {z c o r : Int} {T : List Bool} {Sp : List Pr} {bs : Bool} (w : Vw h bt bm ut us um C z c o r T Sp bs) {a n : Nat} (a1 : 1 ≤ a) (n1 : 1 ≤ n) (hn : a + n ≤ T.length) (hl : T.length < 1000000) (hf : freeR T a n) :
    FSpec P 124 [.pointer (some ⟨bt, 0, none⟩), I a, I n] h fun v h' => v = .bool true ∧ Vw h' bt bm ut us um C z c o r (setR T a n) Sp bs ∧ Same h h' (fun j => j = ut) := by
  refine fspec_cwf hT V2.v110 rfl ?_
  have c1 : ((a : Int) < 1) = False := by simp; omega
  have wn : wrapF .i64 ((a : Int) + n) = ((a + n : Nat) : Int) := by rw [wrapI] <;> omega
  have c2 : (((a + n : Nat) : Int) > T.length) = False := by simp; omega
  have r1 : h.rd bt 1 = some (.slice (some ⟨ut, 0, none⟩) T.length T.length) := rd_of w.blk
  have rt : RdAt h ut 0 1 T.length T.length (T.map .bool) := ⟨⟨_, w.tk, rfl, by rw [List.drop_zero, Nat.mul_one, List.take_of_length_le (by simp)], by simp⟩, Nat.le_refl _, w.lt.2⟩
  have sl := rt.cut (lo := a) (hi := a + n) (by omega) hn (by omega)
  have rs := rt.sub (lo := a) (hi := a + n) (by omega) hn
  have e1 : a + n - a = n := by omega
  rw [e1] at sl rs
  simp only [Nat.zero_add, Nat.mul_one] at sl rs
  have e2 : (List.drop a (T.map Value.bool)).take n = ((T.drop a).take n).map Value.bool := by rw [List.map_take, List.map_drop]
  rw [e2] at rs
  obtain ⟨_, h1, F1, rfl, rfl⟩ := nobool_spec hT V rs (fun b hb => by
    obtain ⟨i, hi⟩ := List.getElem?_of_mem hb
    rw [List.getElem?_take] at hi
    split at hi
    · rename_i hin
      rw [List.getElem?_drop, hf (a + i) (by omega) (by omega)] at hi
      exact (Option.some.inj hi).symm
    · cases hi) (by omega)
  simp only [af124, cwf_seq, cwf_ops, andThen_normal, owf_nil, o_p, o_r, owf_call, o_on, bo_eq, optQ_some, pop, popQ, rop_load1, ldV_ptr, rop_slice, ev, evO, evs, putA, putArgs, look_put, isB_false, abinF_eq, abin, decide_true, decide_false, cond_true, cond_false, ite_true, ite_false, Bool.not_false, Nat.reduceEqDiff, Nat.reduceAdd, Nat.zero_add, c1, r1, wn, c2, sl]
  refine ⟨_, _, F1, ?_⟩
  simp only [cwf_seq, cwf_ops, c_false, cwf_skip, cwf_block, cwf_loop, andThen_normal, owf_nil, o_p, behind_eq, bo_eq, optQ_some, pop, popQ, ev, putA, look_put, isB_false, cond_false, ite_true, ite_false, Bool.not_false, Nat.reduceEqDiff]
  refine cw_loop (fun k ts h' => ∃ i : Nat, k = n - i ∧ i ≤ n ∧ look ts 0 = .pointer (some ⟨bt, 0, none⟩) ∧ look ts 1 = I a ∧ look ts 33 = I n ∧ look ts 34 = I i ∧ Vw h' bt bm ut us um C z c o r (setR T a i) Sp bs ∧ Same h1 h' (fun j => j = ut)) ?_ (n := n) ⟨0, rfl, Nat.zero_le _, by simp only [look_put, ite_true, ite_false, Nat.reduceEqDiff], by simp only [look_put, ite_true, ite_false, Nat.reduceEqDiff], by simp only [look_put, ite_true, ite_false, Nat.reduceEqDiff], by simp only [look_put, Int.cast_ofNat_Int, ite_true, ite_false, Nat.reduceEqDiff] <;> rfl, by rw [setR_zero]; exact w, Same.refl _ _⟩
  rintro k ts h' ⟨i, rfl, i2, t0, t1, t33, t34, wi', sm⟩
  refine cwf_cw ?_
  by_cases hi : i < n
  · have ci : ((i : Int) < n) = True := by simp [hi]
    have wi : wrapF .i64 ((i : Int) + 1) = ((i + 1 : Nat) : Int) := by rw [wrapI] <;> omega
    have wa : wrapF .i64 ((a : Int) + i) = ((a + i : Nat) : Int) := by rw [wrapI] <;> omega
    have r1' : h'.rd bt 1 = some (.slice (some ⟨ut, 0, none⟩) T.length T.length) := by
      rw [rd_of wi'.blk]; simp [setR_len]
    have ca : (((a + i : Nat) : Int) < T.length) = True := by simp; omega
    have hw : h'.wrs ut (a + i) [.bool true] = some (h'.setB ut ⟨(setR T a (i + 1)).map .bool, (setR T a (i + 1)).length * 1, 1, true, false⟩) := by
      rw [wrs1_of wi'.tk rfl (by simp [setR_len]; omega) rfl, ← setR_set T a i (by omega)]
      simp [List.map_set]
    have sw : Same h' (h'.setB ut ⟨(setR T a (i + 1)).map .bool, (setR T a (i + 1)).length * 1, 1, true, false⟩) (fun j => j = ut) := Same.setB rfl
    have gu : (h'.setB ut ⟨(setR T a (i + 1)).map .bool, (setR T a (i + 1)).length * 1, 1, true, false⟩).blks.get ut = some ⟨(setR T a (i + 1)).map .bool, (setR T a (i + 1)).length * 1, 1, true, false⟩ := by rw [setB_get, if_pos rfl]
    generalize h'.setB ut ⟨(setR T a (i + 1)).map .bool, (setR T a (i + 1)).length * 1, 1, true, false⟩ = k at hw sw gu
    simp only [cwf_seq, cwf_ops, c_true, cwf_skip, cwf_block, andThen_normal, blockQ_normal, roundQ_normal, owf_nil, o_p, o_r, o_e, behind_eq, bo_eq, optQ_some, opt2_some, pop, popQ, rop_load1, ldV_ptr, ev, putA, look_put, isB_true, abinF_eq, abin, eop_store1, st1, Int.toNat_natCast, Int.natCast_nonneg, Nat.mul_one, scalar_bool, inB_eq, decide_true, cond_true, ite_true, ite_false, Bool.and_true, Nat.reduceEqDiff, Nat.zero_add, true_and, t0, t1, t33, t34, ci, wa, r1', ca, hw, wi]
    refine ⟨n - (i + 1), by omega, i + 1, rfl, by omega, rfl, ⟨wi'.mem.same sw (fun e => wi'.ne.2.1 e.symm) (fun y hy e => (wi'.ne.2.2.2.1 y hy).2 e), ?_, gu, wi'.sp.same sw (fun y hy e => (wi'.ne.2.2.2.2 y hy).2.1 e), ⟨Nat.lt_of_lt_of_le wi'.lt.1 sw.next, Nat.lt_of_lt_of_le wi'.lt.2 sw.next⟩, wi'.ne⟩, sm.trans sw (fun _ _ x => x)⟩
    rw [sw.get bt wi'.lt.1 (fun e => wi'.ne.2.2.1 e.symm), wi'.blk]
    simp [setR_len]
  · have hin : i = n := by omega
    have ci : ((i : Int) < n) = False := by simp; omega
    simp only [cwf_seq, cwf_ops, cwf_ret, c_false, cwf_exit, andThen_normal, andThen_exit, blockQ_exit, roundQ_exit, fnQ_ret, owf_nil, o_p, bo_eq, optQ_some, pop, popQ, ev, putA, look_put, isB_false, abinF_eq, abin, resAll, resA, mkRes1, decide_true, decide_false, cond_true, ite_true, ite_false, Bool.not_false, Nat.reduceEqDiff, Option.some.injEq, exists_eq_left', true_and, t33, t34, ci]
    rw [tail_marks h1 h' sm.marks]
    rw [hin] at wi'
    exact ⟨wi', sm⟩
end
end
end Go.Proofs.YtpeihcpclcibgaaGreat.Ai
/- A tree is gone through: slots, records, Inner. -/
namespace Go.Proofs.YtpeihcpclcibgaaGreat.Ai
open Go.Proofs.YtpeihcpclcibgaaGreat
noncomputable section
open Go.RowKit
structure HasV3 (tab : Nat → Option AFunc) : Prop where
  v111 : tab 125 = some af125
  v127 : tab 181 = some af181
  v136 : tab 234 = some af234

theorem hasV3 : HasV3 tabT.get := ⟨by kernel_rfl, by kernel_rfl, by kernel_rfl⟩

theorem word_parts (t : Tr) : ∃ k : Nat, 1 ≤ k ∧ k ≤ 3 ∧ t.word = (t.adr : Int) * 8 + (k : Int) := by
  cases t
  · exact ⟨1, by omega, by omega, rfl⟩
  · exact ⟨2, by omega, by omega, rfl⟩
  · exact ⟨3, by omega, by omega, rfl⟩

theorem ok_adr {C : List Int} {t : Tr} (h : t.ok C) (hC : C.length ≤ 65536) : 1 ≤ t.adr ∧ t.adr ≤ 65536 := by
  cases t with
  | empty a => exact ⟨h.1, by have := h.2; show a ≤ _; omega⟩
  | leaf a k v => exact ⟨h.1, by have := h.2.1; show a ≤ _; omega⟩
  | inner a sz sh ch sm ks cs => exact ⟨h.1.1, by have := h.1.2.1; show a ≤ _; omega⟩

theorem spotss_len : ∀ (cs : List Tr) (s s' : Nat), (spotss s cs).length = (spotss s' cs).length
  | [], _, _ => rfl
  | t :: cs, s, s' => by simp [spotss, spotss_len cs (s + 1) (s' + 1)]

/-- of a record, and all below it -/
def RecP (P : Program) (t : Tr) : Prop := ∀ (h : Heap) (bt bm ut : Nat) (us um : Option Nat) (C : List Int) (z c o r : Int) (T : List Bool) (Sp : List Pr) (bs : Bool) (lo hi : Int), Vw h bt bm ut us um C z c o r T Sp bs → t.ok C → t.ord lo hi → t.free T → C.length ≤ 65536 → T.length = C.length + 1 → Sp.length + t.spots.length ≤ 100000 → -9223372036854775808 ≤ lo → hi ≤ 9223372036854775807 →
  FSpec P 181 [.pointer (some ⟨bt, 0, none⟩), I t.word, I lo, I hi] h fun v h' => v = .bool true ∧ (∃ us', Vw h' bt bm ut us' um C z c o r (t.marks T) (Sp ++ t.spots) (bs || t.busy) ∧ ∀ y, us' = some y → us = some y ∨ h.next ≤ y) ∧ Same h h' (VwS bt ut us)

section
variable {P : Program} {tab : Nat → Option AFunc} (hT : TabOk P tab) (V : HasV tab)
include hT V

theorem slot_spec (H : Has tab) (V3 : HasV3 tab) {t : Tr} (rec : RecP P t) {h : Heap} {bt bm ut : Nat} {us um : Option Nat} {C : List Int} {z c o r : Int} {T : List Bool} {Sp : List Pr} {bs : Bool} {lo hi : Int} (w : Vw h bt bm ut us um C z c o r T Sp bs) (hok : t.ok C) (hord : t.ord lo hi) (hfree : t.free T) (hC : C.length ≤ 65536) (hTl : T.length = C.length + 1) {s : Nat} (hs : s < 1000000) (hw : at0 C s = t.word) (hsp : Sp.length + (1 + t.spots.length) ≤ 100000) (h1 : -9223372036854775808 ≤ lo) (h2 : hi ≤ 9223372036854775807) :
    FSpec P 125 [.pointer (some ⟨bt, 0, none⟩), I s, I lo, I hi] h fun v h' => v = .bool true ∧ (∃ us', Vw h' bt bm ut us' um C z c o r (t.marks T) (Sp ++ (((s : Int), t.word) :: t.spots)) (bs || t.busy) ∧ ∀ y, us' = some y → us = some y ∨ h.next ≤ y) ∧ Same h h' (VwS bt ut us) := by
  refine fspec_cwf hT V3.v111 rfl ?_
  obtain ⟨k, k1, k2, hk⟩ := word_parts t
  obtain ⟨a1, a2⟩ := ok_adr hok hC
  obtain ⟨_, h, F1, rfl, rfl⟩ := at_spec hT V w.mem s hs
  rw [hw] at F1
  have F2 := kind_spec hT V H h t.adr k a1 a2 k1 (by omega)
  rw [← hk] at F2
  obtain ⟨_, h, F2, rfl, rfl⟩ := F2
  have F3 := logic_spec hT V H w.mem s hs a1 a2 k1 (by omega) (hw.trans hk)
  rw [← hk] at F3
  obtain ⟨_, h, F3, rfl, rfl⟩ := F3
  have c5 : ((k : Int) == 5) = false := by rw [beq_eq_false_iff_ne]; omega
  have r0 : h.rd bt 0 = some (.pointer (some ⟨bm, 0, none⟩)) := rd_of w.blk
  have r2 : h.rd bt 2 = some (ownSl us Sp.length) := rd_of w.blk
  have hcell : RdAt (h.new ⟨[I s, I t.word], 2, 2, true, false⟩) h.next 0 2 1 1 [I s, I t.word] := RdAt.fresh h [I s, I t.word] 1 2 true false rfl
  have s1 : Same h (h.new ⟨[I s, I t.word], 2, 2, true, false⟩) (fun _ => False) := Same.new
  have x1 : (h.new ⟨[I s, I t.word], 2, 2, true, false⟩).next = h.next + 1 := rfl
  generalize hh1 : h.new ⟨[I s, I t.word], 2, 2, true, false⟩ = k1' at hcell s1 x1
  have w1 := w.same s1
  obtain ⟨us2, k2', a3, o2, s2, n2⟩ := app_own (bytes := 16) w1.sp hcell.src rfl rfl (by omega) (by omega) (by omega)
  have x2 := s2.next
  have b2 : k2'.blks.get bt = some ⟨[.pointer (some ⟨bm, 0, none⟩), .slice (some ⟨ut, 0, none⟩) T.length T.length, ownSl us Sp.length, .slice none 0 0, .bool bs], 5, 5, true, false⟩ := by
    rw [s2.get bt w1.lt.1 (fun e => (w.ne.2.2.2.2 bt e).1 rfl)]; exact w1.blk
  have w2 : k2'.wrs bt 2 [ownSl us2 (Sp.length + 1)] = some (k2'.setB bt ⟨[.pointer (some ⟨bm, 0, none⟩), .slice (some ⟨ut, 0, none⟩) T.length T.length, ownSl us2 (Sp.length + 1), .slice none 0 0, .bool bs], 5, 5, true, false⟩) := wrs1_of b2 rfl (by simp) rfl
  have s3 : Same k2' (k2'.setB bt ⟨[.pointer (some ⟨bm, 0, none⟩), .slice (some ⟨ut, 0, none⟩) T.length T.length, ownSl us2 (Sp.length + 1), .slice none 0 0, .bool bs], 5, 5, true, false⟩) (fun j => j = bt) := Same.setB rfl
  have g3 : (k2'.setB bt ⟨[.pointer (some ⟨bm, 0, none⟩), .slice (some ⟨ut, 0, none⟩) T.length T.length, ownSl us2 (Sp.length + 1), .slice none 0 0, .bool bs], 5, 5, true, false⟩).blks.get bt = some ⟨[.pointer (some ⟨bm, 0, none⟩), .slice (some ⟨ut, 0, none⟩) T.length T.length, ownSl us2 (Sp.length + 1), .slice none 0 0, .bool bs], 5, 5, true, false⟩ := by rw [setB_get, if_pos rfl]
  generalize hh3 : k2'.setB bt ⟨[.pointer (some ⟨bm, 0, none⟩), .slice (some ⟨ut, 0, none⟩) T.length T.length, ownSl us2 (Sp.length + 1), .slice none 0 0, .bool bs], 5, 5, true, false⟩ = k3 at w2 s3 g3
  have x3 := s3.next
  have us2n : ∀ y, us2 = some y → y ≠ bt ∧ y ≠ ut ∧ y ≠ bm ∧ um ≠ some y := fun y hy => by
    rcases n2 y hy with e | e
    · exact w.ne.2.2.2.2 y e
    · have := w.lt; have := w.mem.lt
      exact ⟨by omega, by omega, by omega, fun e2 => by have := (w.mem.use y e2).2.2.1; omega⟩
  have hSp : (Sp ++ [((s : Int), t.word)]).length = Sp.length + 1 := by simp
  have wv : Vw k3 bt bm ut us2 um C z c o r T (Sp ++ [((s : Int), t.word)]) bs := by
    refine ⟨((w1.mem.same s2 (fun e => (w.ne.2.2.2.2 bm e).2.2.1 rfl) (fun y hy e => (w.ne.2.2.2.2 y e).2.2.2 hy)).same s3 (fun e => w.ne.1 e.symm) (fun y hy => (w.ne.2.2.2.1 y hy).1)), ?_, ?_, ?_, ⟨?_, ?_⟩, w.ne.1, w.ne.2.1, w.ne.2.2.1, w.ne.2.2.2.1, us2n⟩
    · rw [g3, hSp]
    · rw [s3.get ut (by have := w.lt; omega) w.ne.2.2.1, s2.get ut (by have := w.lt; omega) (fun e => (w.ne.2.2.2.2 ut e).2.1 rfl)]
      exact w1.tk
    · have := o2.same s3 (fun y hy e => (us2n y hy).1 e)
      rw [hSp, flat_app]
      exact this
    · have := w.lt; omega
    · have := w.lt; omega
  obtain ⟨_, h4, F4, rfl, ⟨us4, wv4, n4⟩, s4⟩ := rec k3 bt bm ut us2 um C z c o r T (Sp ++ [((s : Int), t.word)]) bs lo hi wv hok hord hfree hC hTl (by rw [hSp]; omega) h1 h2
  have sf : Same h h4 (VwS bt ut us) := (((s1.mono (T := VwS bt ut us) (fun _ x => x.elim)).trans s2 (fun j hj e => .inr (.inr e))).trans s3 (fun j hj e => .inl e)).trans s4 (fun j hj e => by
    rcases e with e | e | e
    · exact .inl e
    · exact .inr (.inl e)
    · rcases n2 j e with e2 | e2
      · exact .inr (.inr e2)
      · omega)
  simp only [af125, cwf_seq, cwf_ops, andThen_normal, owf_nil, o_p, o_r, owf_call, bo_eq, optQ_some, pop, popQ, rop_load1, ldV_ptr, ev, evs, putA, putArgs, look_put, Nat.add_zero, ite_true, ite_false, Nat.reduceEqDiff, Nat.reduceAdd, Nat.zero_add, r0]
  refine ⟨_, _, F1, ?_⟩
  simp only [cwf_seq, cwf_ops, andThen_normal, owf_nil, o_p, owf_call, behind_eq, bo_eq, optQ_some, pop, popQ, ev, evs, putA, look_put, ite_true, ite_false, Nat.reduceEqDiff]
  refine ⟨_, _, F2, ?_⟩
  simp only [cwf_seq, cwf_ops, c_false, cwf_skip, andThen_normal, owf_nil, o_p, o_r, owf_call, behind_eq, bo_eq, optQ_some, pop, popQ, rop_load1, ldV_ptr, ev, evs, putA, look_put, isB_false, abinF_eq, abin, Nat.add_zero, decide_true, cond_true, ite_true, ite_false, Bool.not_false, Nat.reduceEqDiff, c5, r0]
  refine ⟨_, _, F3, ?_⟩
  simp only [cwf_seq, cwf_ops, andThen_normal, owf_nil, o_p, o_r, o_e, owf_call, behind_eq, bo_eq, optQ_some, opt2_some, pop, popQ, rop_load1, ldV_ptr, ev, evs, putA, look_put, eop_store1, eop_app, st1, eop_buildS, bldS_some, evP_nil, evP_cons, fillA_nil, fillA_one, fillA_pair, List.length_cons, List.length_nil, List.set_cons_zero, List.set_cons_succ, Nat.reduceLT, Nat.lt_add_one, scalar_slice, scalar_int, ite_true, ite_false, Nat.reduceEqDiff, Nat.reduceAdd, Nat.zero_add, Nat.reduceMul, r2, hh1, a3, w2]
  refine ⟨_, _, F4, ?_⟩
  simp only [cwf_ret, andThen_normal, fnQ_ret, owf_nil, o_p, behind_eq, bo_eq, optQ_some, pop, popQ, ev, putA, look_put, resAll, resA, mkRes1, ite_true, ite_false, Nat.reduceEqDiff, Option.some.injEq, exists_eq_left', true_and]
  rw [tail_marks h h4 sf.marks]
  refine ⟨⟨us4, ?_, fun y hy => ?_⟩, sf⟩
  · rw [List.append_assoc] at wv4; exact wv4
  · rcases n4 y hy with e | e
    · exact (n2 y e).imp_right (fun e => by omega)
    · exact .inr (by omega)
end
end
end Go.Proofs.YtpeihcpclcibgaaGreat.Ai
/- A record, and all below it. -/
namespace Go.Proofs.YtpeihcpclcibgaaGreat.Ai
open Go.Proofs.YtpeihcpclcibgaaGreat
noncomputable section
open Go.RowKit
def pre234_5 (x : ACode) : ACode := (.seq (.ops [⟨(some 8), .p (.mov (.c (.bool false))), none⟩]) (.seq (.ops [⟨(some 19), .p (.mov (.t 0)), none⟩, ⟨(some 20), .p (.nilchk (.t 19)), none⟩, ⟨(some 21), .p (.fieldAddr 0 (.t 20)), none⟩, ⟨(some 22), .r (.load1 (.t 21)), none⟩, ⟨(some 9), .p (.mov (.t 22)), none⟩]) (.seq (.ops [⟨(some 23), .p (.mov (.t 9)), none⟩, ⟨(some 24), .p (.mov (.t 1)), none⟩, ⟨(some 25), .p (.bin .add false (.t 24) (.c (.int .i64 0))), none⟩, ⟨(some 26), .call 14 [(.t 23), (.t 25)], none⟩, ⟨(some 27), .p (.mov (.t 9)), none⟩, ⟨(some 28), .p (.mov (.t 1)), none⟩, ⟨(some 29), .p (.bin .add false (.t 28) (.c (.int .i64 2))), none⟩, ⟨(some 30), .call 14 [(.t 27), (.t 29)], none⟩, ⟨(some 10), .p (.mov (.t 26)), none⟩, ⟨(some 11), .p (.mov (.t 30)), none⟩]) (.seq (.seq (.ops [⟨(some 31), .p (.mov (.t 10)), none⟩, ⟨(some 32), .p (.bin .lss false (.t 31) (.c (.int .i64 2))), none⟩, ⟨(some 33), .p (.mov (.t 32)), none⟩, ⟨(some 34), .p (.mov (.t 10)), some (33, false)⟩, ⟨(some 35), .p (.mov (.t 9)), some (33, false)⟩, ⟨(some 36), .call 47 [(.t 35)], some (33, false)⟩, ⟨(some 37), .p (.bin .gtr false (.t 34) (.t 36)), some (33, false)⟩, ⟨(some 38), .p (.pick (.t 33) (.c (.bool true)) (.t 37)), none⟩, ⟨(some 39), .p (.mov (.t 38)), none⟩, ⟨(some 40), .p (.mov (.t 0)), some (39, false)⟩, ⟨(some 41), .p (.mov (.t 1)), some (39, false)⟩, ⟨(some 42), .p (.mov (.t 10)), some (39, false)⟩, ⟨(some 43), .p (.bin .mul false (.c (.int .i64 2)) (.t 42)), some (39, false)⟩, ⟨(some 44), .p (.bin .add false (.c (.int .i64 4)) (.t 43)), some (39, false)⟩, ⟨(some 45), .call 124 [(.t 40), (.t 41), (.t 44)], some (39, false)⟩, ⟨(some 46), .p (.not (.t 45)), some (39, false)⟩, ⟨(some 47), .p (.pick (.t 39) (.c (.bool true)) (.t 46)), none⟩, ⟨(some 48), .p (.mov (.t 47)), none⟩, ⟨(some 49), .p (.mov (.t 11)), some (48, false)⟩, ⟨(some 50), .p (.bin .neq false (.t 49) (.c (.int .i64 0))), some (48, false)⟩, ⟨(some 51), .p (.mov (.t 50)), some (48, false)⟩, ⟨(some 52), .p (.mov (.t 11)), some (51, true)⟩, ⟨(some 53), .p (.bin .neq false (.t 52) (.c (.int .i64 1))), some (51, true)⟩, ⟨(some 54), .p (.pick (.t 51) (.t 53) (.c (.bool false))), some (48, false)⟩, ⟨(some 55), .p (.pick (.t 48) (.c (.bool true)) (.t 54)), none⟩]) (.cond (.t 55) (.seq (.ops [⟨(some 8), .p (.mov (.c (.bool false))), none⟩]) .ret) .skip)) (.seq (.seq (.ops [⟨(some 56), .p (.mov (.t 11)), none⟩, ⟨(some 57), .p (.bin .eql false (.t 56) (.c (.int .i64 1))), none⟩, ⟨(some 58), .p (.mov (.t 57)), none⟩, ⟨(some 59), .p (.mov (.t 9)), some (58, false)⟩, ⟨(some 60), .p (.mov (.t 1)), some (58, false)⟩, ⟨(some 61), .p (.bin .add false (.t 60) (.c (.int .i64 3))), some (58, false)⟩, ⟨(some 62), .call 14 [(.t 59), (.t 61)], some (58, false)⟩, ⟨(some 63), .p (.mov (.t 9)), some (58, false)⟩, ⟨(some 64), .p (.mov (.t 1)), some (58, false)⟩, ⟨(some 65), .p (.bin .add false (.t 64) (.c (.int .i64 1))), some (58, false)⟩, ⟨(some 66), .call 14 [(.t 63), (.t 65)], some (58, false)⟩, ⟨(some 67), .call 25 [(.t 66)], some (58, false)⟩, ⟨(some 68), .p (.bin .geq false (.t 62) (.t 67)), some (58, false)⟩, ⟨(some 69), .p (.pick (.t 58) (.c (.bool true)) (.t 68)), none⟩]) (.cond (.t 69) (.ops [⟨(some 70), .p (.mov (.t 0)), none⟩, ⟨(some 71), .p (.nilchk (.t 70)), none⟩, ⟨(some 72), .p (.fieldAddr 4 (.t 71)), none⟩, ⟨none, .e (.store 1 (.t 72) (.c (.bool true))), none⟩]) .skip)) x)))))
def rest234_5 : ACode := (.seq (.ops [⟨(some 73), .p (.mov (.t 10)), none⟩, ⟨(some 74), .p (.mov (.t 2)), none⟩, ⟨(some 12), .p (.mov (.t 73)), none⟩, ⟨(some 13), .p (.mov (.t 74)), none⟩]) (.seq (.seq (.ops [⟨(some 14), .p (.mov (.c (.int .i64 1))), none⟩]) (.block 0 (.loop (.seq (.seq (.ops [⟨(some 75), .p (.mov (.t 14)), none⟩, ⟨(some 76), .p (.mov (.t 12)), none⟩, ⟨(some 77), .p (.bin .lss false (.t 75) (.t 76)), none⟩]) (.cond (.t 77) .skip (.exit 0))) (.seq (.block 1 (.seq (.ops [⟨(some 80), .p (.mov (.t 9)), none⟩, ⟨(some 81), .p (.mov (.t 1)), none⟩, ⟨(some 82), .p (.mov (.t 14)), none⟩, ⟨(some 83), .call 185 [(.t 81), (.t 82)], none⟩, ⟨(some 84), .call 14 [(.t 80), (.t 83)], none⟩, ⟨(some 15), .p (.mov (.t 84)), none⟩]) (.seq (.seq (.ops [⟨(some 85), .p (.mov (.t 15)), none⟩, ⟨(some 86), .p (.mov (.t 13)), none⟩, ⟨(some 87), .p (.bin .leq false (.t 85) (.t 86)), none⟩, ⟨(some 88), .p (.mov (.t 87)), none⟩, ⟨(some 89), .p (.mov (.t 15)), some (88, false)⟩, ⟨(some 90), .p (.mov (.t 3)), some (88, false)⟩, ⟨(some 91), .p (.bin .gtr false (.t 89) (.t 90)), some (88, false)⟩, ⟨(some 92), .p (.pick (.t 88) (.c (.bool true)) (.t 91)), none⟩]) (.cond (.t 92) (.seq (.ops [⟨(some 8), .p (.mov (.c (.bool false))), none⟩]) .ret) .skip)) (.ops [⟨(some 93), .p (.mov (.t 15)), none⟩, ⟨(some 13), .p (.mov (.t 93)), none⟩])))) (.ops [⟨(some 78), .p (.mov (.t 14)), none⟩, ⟨(some 79), .p (.bin .add false (.t 78) (.c (.int .i64 1))), none⟩, ⟨(some 14), .p (.mov (.t 79)), none⟩])))))) (.seq (.seq (.ops [⟨(some 94), .p (.mov (.t 12)), none⟩, ⟨(some 95), .p (.mov (.c (.int .i64 0))), none⟩]) (.block 2 (.loop (.seq (.ops [⟨(some 96), .p (.bin .lss false (.t 95) (.t 94)), none⟩]) (.seq (.cond (.t 96) .skip (.exit 2)) (.seq (.block 3 (.seq (.ops [⟨(some 97), .p (.mov (.t 95)), none⟩, ⟨(some 16), .p (.mov (.t 97)), none⟩]) (.seq (.ops [⟨(some 98), .p (.mov (.t 2)), none⟩, ⟨(some 99), .p (.mov (.t 3)), none⟩, ⟨(some 17), .p (.mov (.t 98)), none⟩, ⟨(some 18), .p (.mov (.t 99)), none⟩]) (.seq (.seq (.ops [⟨(some 100), .p (.mov (.t 16)), none⟩, ⟨(some 101), .p (.bin .gtr false (.t 100) (.c (.int .i64 0))), none⟩]) (.cond (.t 101) (.ops [⟨(some 102), .p (.mov (.t 9)), none⟩, ⟨(some 103), .p (.mov (.t 1)), none⟩, ⟨(some 104), .p (.mov (.t 16)), none⟩, ⟨(some 105), .call 185 [(.t 103), (.t 104)], none⟩, ⟨(some 106), .call 14 [(.t 102), (.t 105)], none⟩, ⟨(some 17), .p (.mov (.t 106)), none⟩]) .skip)) (.seq (.seq (.ops [⟨(some 107), .p (.mov (.t 16)), none⟩, ⟨(some 108), .p (.mov (.t 12)), none⟩, ⟨(some 109), .p (.bin .sub false (.t 108) (.c (.int .i64 1))), none⟩, ⟨(some 110), .p (.bin .lss false (.t 107) (.t 109)), none⟩]) (.cond (.t 110) (.ops [⟨(some 111), .p (.mov (.t 9)), none⟩, ⟨(some 112), .p (.mov (.t 1)), none⟩, ⟨(some 113), .p (.mov (.t 16)), none⟩, ⟨(some 114), .p (.bin .add false (.t 113) (.c (.int .i64 1))), none⟩, ⟨(some 115), .call 185 [(.t 112), (.t 114)], none⟩, ⟨(some 116), .call 14 [(.t 111), (.t 115)], none⟩, ⟨(some 117), .p (.bin .sub false (.t 116) (.c (.int .i64 1))), none⟩, ⟨(some 18), .p (.mov (.t 117)), none⟩]) .skip)) (.seq (.ops [⟨(some 118), .p (.mov (.t 0)), none⟩, ⟨(some 119), .p (.mov (.t 1)), none⟩, ⟨(some 120), .p (.mov (.t 12)), none⟩, ⟨(some 121), .p (.mov (.t 16)), none⟩, ⟨(some 122), .call 16 [(.t 119), (.t 120), (.t 121)], none⟩, ⟨(some 123), .p (.mov (.t 17)), none⟩, ⟨(some 124), .p (.mov (.t 18)), none⟩, ⟨(some 125), .call 125 [(.t 118), (.t 122), (.t 123), (.t 124)], none⟩, ⟨(some 126), .p (.not (.t 125)), none⟩]) (.cond (.t 126) (.seq (.ops [⟨(some 8), .p (.mov (.c (.bool false))), none⟩]) .ret) .skip))))))) (.ops [⟨(some 127), .p (.bin .add false (.t 95) (.c (.int .i64 1))), none⟩, ⟨(some 95), .p (.mov (.t 127)), none⟩]))))))) (.seq (.ops [⟨(some 8), .p (.mov (.c (.bool true))), none⟩]) .ret))))
theorem cut234_5 : af234.body = pre234_5 rest234_5 := (rfl)

theorem Vw.mono {h h' : Heap} {bt bm ut : Nat} {us um : Option Nat} {C : List Int} {z c o r : Int} {T : List Bool} {Sp : List Pr} {bs : Bool} (w : Vw h bt bm ut us um C z c o r T Sp bs) (m : Same h h' (fun _ => False)) : Vw h' bt bm ut us um C z c o r T Sp bs := w.same m

theorem VwS_false {bt ut : Nat} {us : Option Nat} {h h' : Heap} (m : Same h h' (fun _ => False)) : Same h h' (VwS bt ut us) := m.mono (fun _ x => x.elim)

theorem spots_take (cs : List Tr) (s : Nat) : ∀ i, i ≤ cs.length → (spotss s (cs.take i)).length ≤ (spotss s cs).length := by
  intro i _
  have e : cs = cs.take i ++ cs.drop i := (List.take_append_drop i cs).symm
  rw [show (spotss s cs).length = (spotss s (cs.take i ++ cs.drop i)).length by rw [← e], spotss_app, List.length_append]
  omega

section
variable {P : Program} {tab : Nat → Option AFunc} (hT : TabOk P tab) (V : HasV tab)
include hT V

/-- the keys, and then the slots -/
theorem inner_tail (H : Has tab) (V3 : HasV3 tab) {a : Nat} {ks : List Int} {cs : List Tr} (ih : ∀ t ∈ cs, RecP P t) {h0 h : Heap} {bt bm ut : Nat} {us um : Option Nat} {C : List Int} {z c o r : Int} {T : List Bool} {Sp : List Pr} {bs : Bool} {lo hi : Int} {d : Nat} (hd : d = cs.length) (w : Vw h bt bm ut us um C z c o r T Sp bs) (q2 : a + (2 * d + 4) ≤ C.length + 1) (q3 : d = ks.length + 1) (q4 : 1 ≤ ks.length)
    (hks : ∀ i (h : i < ks.length), at0 C (a + 5 + i) = ks[i]) (hcs : ∀ i (h : i < cs.length), at0 C (a + 4 + cs.length + i) = cs[i].word) (hoks : oks C cs) (hord : ords lo hi ks cs) (hfree : frees T cs) (hC : C.length ≤ 65536) (hTl : T.length = C.length + 1) (hsp : Sp.length + (spotss (a + 4 + d) cs).length ≤ 100000) (h1 : -9223372036854775808 ≤ lo) (h2 : hi ≤ 9223372036854775807) (sm : Same h0 h (VwS bt ut us))
    (ts : Ai.T Value) (t0 : look ts 0 = .pointer (some ⟨bt, 0, none⟩)) (t1 : look ts 1 = I a) (t2 : look ts 2 = I lo) (t3 : look ts 3 = I hi) (t9 : look ts 9 = .pointer (some ⟨bm, 0, none⟩)) (t10 : look ts 10 = I d) :
    cwf P 128 none rest234_5 ts h (fnQ h0 [.tmp 8] fun v h' => v = .bool true ∧ (∃ us', Vw h' bt bm ut us' um C z c o r (markss T cs) (Sp ++ spotss (a + 4 + d) cs) (bs || busys cs) ∧ ∀ y, us' = some y → us = some y ∨ h0.next ≤ y) ∧ Same h0 h' (VwS bt ut us)) := by
  obtain ⟨_, hkeys⟩ := ords_keys hord
  have nx := sm.next
  have hkl : ∀ i (h : i < ks.length), -9223372036854775808 ≤ (if i = 0 then lo else (ks[i - 1]?).getD 0) ∧ (if i = 0 then lo else (ks[i - 1]?).getD 0) < ks[i] ∧ ks[i] ≤ hi := by
    intro i
    induction i with
    | zero => intro h; have := hkeys 0 h; simp at this ⊢; omega
    | succ i ih =>
      intro h
      have h3 := hkeys (i + 1) h
      have h4 := ih (by omega)
      simp only [Nat.add_sub_cancel, List.getElem?_eq_getElem (show i < ks.length by omega), Option.getD_some] at h3 ⊢
      rw [if_neg (by omega)] at h3 ⊢
      omega
  simp only [rest234_5, cwf_seq, cwf_ops, cwf_block, cwf_loop, andThen_normal, owf_nil, o_p, bo_eq, optQ_some, pop, popQ, ev, putA, look_put, ite_true, ite_false, Nat.reduceEqDiff, t2, t10]
  refine cw_loop (fun k ts h' => ∃ i : Nat, k = d - i ∧ 1 ≤ i ∧ i ≤ d ∧ look ts 0 = .pointer (some ⟨bt, 0, none⟩) ∧ look ts 1 = I a ∧ look ts 2 = I lo ∧ look ts 3 = I hi ∧ look ts 9 = .pointer (some ⟨bm, 0, none⟩) ∧ look ts 12 = I d ∧ look ts 13 = I (if i = 1 then lo else (ks[i - 2]?).getD 0) ∧ look ts 14 = I i ∧ Same h h' (fun _ => False)) ?_ (n := d - 1) ⟨1, rfl, Nat.le_refl _, by omega, by simp only [look_put, ite_false, Nat.reduceEqDiff, t0], by simp only [look_put, ite_false, Nat.reduceEqDiff, t1], by simp only [look_put, ite_false, Nat.reduceEqDiff, t2], by simp only [look_put, ite_false, Nat.reduceEqDiff, t3], by simp only [look_put, ite_false, Nat.reduceEqDiff, t9], by simp only [look_put, ite_true, ite_false, Nat.reduceEqDiff], by simp only [look_put, Nat.reduceSub, ite_true, ite_false, Nat.reduceEqDiff], by simp only [look_put, Int.cast_ofNat_Int, ite_true, ite_false, Nat.reduceEqDiff] <;> rfl, Same.refl _ _⟩
  rintro k ts h' ⟨i, rfl, i1, i2, t0, t1, t2, t3, t9, t12, t13, t14, s1⟩
  have w' := w.same s1
  refine cwf_cw ?_
  by_cases hi' : i < d
  · have ci : ((i : Int) < d) = True := by simp [hi']
    have wi : wrapF .i64 ((i : Int) + 1) = ((i + 1 : Nat) : Int) := by rw [wrapI] <;> omega
    obtain ⟨_, h3, F1, rfl, s3⟩ := keyat_spec hT V h' a i (by omega) (by omega)
    have w3 := w'.same s3
    obtain ⟨_, h3, F2, rfl, rfl⟩ := at_spec hT V w3.mem (a + 4 + i) (by omega)
    have hk := hks (i - 1) (by omega)
    rw [show a + 5 + (i - 1) = a + 4 + i by omega] at hk
    rw [hk] at F2
    have hb := hkl (i - 1) (by omega)
    have e13 : (if i = 1 then lo else (ks[i - 2]?).getD 0) = (if i - 1 = 0 then lo else (ks[i - 1 - 1]?).getD 0) := by
      by_cases q : i = 1
      · rw [if_pos q, if_pos (by omega)]
      · rw [if_neg q, if_neg (by omega), show i - 2 = i - 1 - 1 by omega]
    rw [e13] at t13
    have c1 : (ks[i - 1]'(by omega) ≤ (if i - 1 = 0 then lo else (ks[i - 1 - 1]?).getD 0)) = False := by simp; omega
    have c2 : (ks[i - 1]'(by omega) > hi) = False := by simp; omega
    simp only [cwf_seq, cwf_ops, c_true, cwf_skip, cwf_block, andThen_normal, owf_nil, o_p, owf_call, bo_eq, optQ_some, pop, popQ, ev, evs, putA, look_put, isB_true, abinF_eq, abin, decide_true, cond_true, ite_true, ite_false, Nat.reduceEqDiff, t1, t9, t12, t14, ci]
    refine ⟨_, _, F1, ?_⟩
    simp only [owf_call, behind_eq, ev, evs, putA, look_put, ite_true, ite_false, Nat.reduceEqDiff]
    refine ⟨_, _, F2, ?_⟩
    simp only [cwf_seq, cwf_ops, c_false, cwf_skip, andThen_normal, blockQ_normal, roundQ_normal, owf_nil, o_p, o_on, behind_eq, bo_eq, optQ_some, pop, popQ, ev, putA, look_put, isB_false, abinF_eq, abin, decide_true, decide_false, cond_true, cond_false, ite_true, ite_false, Bool.not_false, Nat.reduceEqDiff, true_and, t0, t1, t2, t3, t9, t12, t13, t14, c1, c2, wi]
    refine ⟨d - (i + 1), by omega, i + 1, rfl, by omega, by omega, ?_, rfl, s1.trans s3 (fun _ _ x => x)⟩
    rw [if_neg (by omega), show i + 1 - 2 = i - 1 by omega, List.getElem?_eq_getElem (show i - 1 < ks.length by omega)]
    rfl
  · have hid : i = d := by omega
    have ci : ((i : Int) < d) = False := by simp; omega
    simp only [cwf_seq, cwf_ops, c_false, cwf_block, cwf_exit, cwf_loop, andThen_normal, andThen_exit, blockQ_exit, roundQ_exit, owf_nil, o_p, bo_eq, optQ_some, pop, popQ, ev, putA, look_put, isB_false, abinF_eq, abin, decide_true, decide_false, cond_true, ite_true, ite_false, Bool.not_false, Nat.reduceEqDiff, t12, t14, ci]
    refine cw_loop (fun k ts h4 => ∃ (i : Nat) (us' : Option Nat), k = d - i ∧ i ≤ d ∧ look ts 0 = .pointer (some ⟨bt, 0, none⟩) ∧ look ts 1 = I a ∧ look ts 2 = I lo ∧ look ts 3 = I hi ∧ look ts 9 = .pointer (some ⟨bm, 0, none⟩) ∧ look ts 12 = I d ∧ look ts 94 = I d ∧ look ts 95 = I i ∧ Vw h4 bt bm ut us' um C z c o r (markss T (cs.take i)) (Sp ++ spotss (a + 4 + d) (cs.take i)) (bs || busys (cs.take i)) ∧ (∀ y, us' = some y → us = some y ∨ h0.next ≤ y) ∧ Same h0 h4 (VwS bt ut us)) ?_ (n := d) ⟨0, us, rfl, Nat.zero_le _, by simp only [look_put, ite_false, Nat.reduceEqDiff, t0], by simp only [look_put, ite_false, Nat.reduceEqDiff, t1], by simp only [look_put, ite_false, Nat.reduceEqDiff, t2], by simp only [look_put, ite_false, Nat.reduceEqDiff, t3], by simp only [look_put, ite_false, Nat.reduceEqDiff, t9], by simp only [look_put, ite_false, Nat.reduceEqDiff, t12], by simp only [look_put, ite_true, ite_false, Nat.reduceEqDiff], by simp only [look_put, Int.cast_ofNat_Int, ite_true, ite_false, Nat.reduceEqDiff] <;> rfl, by simpa [markss, spotss, busys] using w', fun y hy => .inl hy, sm.trans s1 (fun _ _ x => x.elim)⟩
    rintro k ts h4 ⟨j, us', rfl, j2, t0, t1, t2, t3, t9, t12, t94, t95, w4, n4, s4⟩
    refine cwf_cw ?_
    by_cases hj : j < d
    · have cj : ((j : Int) < d) = True := by simp [hj]
      have wj : wrapF .i64 ((j : Int) + 1) = ((j + 1 : Nat) : Int) := by rw [wrapI] <;> omega
      have wd : wrapF .i64 ((d : Int) - 1) = ((d - 1 : Nat) : Int) := by rw [wrapI] <;> omega
      have hjc : j < cs.length := by omega
      have hspl : (spotss (a + 4 + d) (cs.take (j + 1))).length ≤ (spotss (a + 4 + d) cs).length := spots_take cs _ _ (by omega)
      have hspa : spotss (a + 4 + d) (cs.take (j + 1)) = spotss (a + 4 + d) (cs.take j) ++ ((((a + 4 + d + j : Nat) : Int), cs[j].word) :: cs[j].spots) := by
        rw [take_one cs hjc, spotss_app]
        simp only [List.length_take, Nat.min_eq_left (Nat.le_of_lt hjc), spotss, List.append_nil]
      have hma : markss T (cs.take (j + 1)) = cs[j].marks (markss T (cs.take j)) := by
        rw [take_one cs hjc, markss_app]; rfl
      have hba : (bs || busys (cs.take (j + 1))) = ((bs || busys (cs.take j)) || cs[j].busy) := by
        rw [take_one cs hjc, busys_app]; simp [busys, Bool.or_assoc]
      have hordj := ords_at hord j hjc
      have hfj := frees_at hfree hjc
      have hTj : (markss T (cs.take j)).length = C.length + 1 := by
        have : ∀ (cs : List Tr) (T : List Bool), (markss T cs).length = T.length := by
          intro cs
          induction cs with
          | nil => intro T; rfl
          | cons t cs ih => intro T; show (markss (t.marks T) cs).length = _; rw [ih, markss_len]
        rw [this]; exact hTl
      have cell : at0 C (a + 4 + d + j) = cs[j].word := by
        have := hcs j hjc
        rwa [← hd] at this
      generalize hfr : (if j = 0 then lo else (ks[j - 1]?).getD 0) = fr at hordj
      generalize hto : (if j < ks.length then (ks[j]?).getD 0 - 1 else hi) = to at hordj
      have hfr1 : -9223372036854775808 ≤ fr := by
        rw [← hfr]
        by_cases q : j = 0
        · rw [if_pos q]; exact h1
        · rw [if_neg q]
          have := hkl (j - 1) (by omega)
          rw [List.getElem?_eq_getElem (show j - 1 < ks.length by omega)]
          simp only [Option.getD_some]; omega
      have hto1 : to ≤ 9223372036854775807 := by
        rw [← hto]
        by_cases q : j < ks.length
        · rw [if_pos q]
          have := hkl j q
          rw [List.getElem?_eq_getElem q]
          simp only [Option.getD_some]; omega
        · rw [if_neg q]; exact h2
      have slot : ∀ h5, Same h4 h5 (fun _ => False) → ∃ v h6, Fact P 16 [I a, I d, I j] h5 (I ((a + 4 + d + j : Nat) : Int)) v ∧ Fact P 125 [.pointer (some ⟨bt, 0, none⟩), I ((a + 4 + d + j : Nat) : Int), I fr, I to] v (.bool true) h6 ∧ (∃ us', Vw h6 bt bm ut us' um C z c o r (markss T (cs.take (j + 1))) (Sp ++ spotss (a + 4 + d) (cs.take (j + 1))) (bs || busys (cs.take (j + 1))) ∧ ∀ y, us' = some y → us = some y ∨ h0.next ≤ y) ∧ Same h0 h6 (VwS bt ut us) := by
        intro h5 s5
        obtain ⟨_, k5, F1, rfl, s6⟩ := childat_spec hT V h5 a d j (by omega) (by omega) (by omega)
        have w5 := (w4.same s5).same s6
        obtain ⟨_, h6, F2, rfl, ⟨us6, w6, n6⟩, s7⟩ := slot_spec hT V H V3 (ih cs[j] (List.getElem_mem _)) w5 (oks_mem hoks j hjc) hordj hfj hC hTj (s := a + 4 + d + j) (by omega) cell (by
          rw [hspa] at hspl
          simp only [List.length_append, List.length_cons] at hspl ⊢
          omega) hfr1 hto1
        have x4 := s4.next
        have x5 := s5.next
        have x6 := s6.next
        refine ⟨k5, h6, F1, F2, ⟨us6, ?_, fun y hy => ?_⟩, ((s4.trans s5 (fun _ _ x => x.elim)).trans s6 (fun _ _ x => x.elim)).trans s7 (fun q hq e => ?_)⟩
        · rw [hspa, hma, hba, ← List.append_assoc]; exact w6
        · rcases n6 y hy with e | e
          · exact n4 y e
          · exact .inr (by omega)
        · rcases e with e | e | e
          · exact .inl e
          · exact .inr (.inl e)
          · rcases n4 q e with e2 | e2
            · exact .inr (.inr e2)
            · omega
      have key : ∀ (m : Nat) (h5 : Heap), 1 ≤ m → m ≤ ks.length → Same h4 h5 (fun _ => False) → ∃ h6, Fact P 185 [I a, I m] h5 (I ((a + 4 + m : Nat) : Int)) h6 ∧ Fact P 14 [.pointer (some ⟨bm, 0, none⟩), I ((a + 4 + m : Nat) : Int)] h6 (I ((ks[m - 1]?).getD 0)) h6 ∧ Same h4 h6 (fun _ => False) := by
        intro m h5 m1 m2 s5
        obtain ⟨_, h6, F1, rfl, s6⟩ := keyat_spec hT V h5 a m (by omega) (by omega)
        obtain ⟨_, h6, F2, rfl, rfl⟩ := at_spec hT V ((w4.same s5).same s6).mem (a + 4 + m) (by omega)
        have hk := hks (m - 1) (by omega)
        rw [show a + 5 + (m - 1) = a + 4 + m by omega] at hk
        rw [hk] at F2
        refine ⟨h6, F1, ?_, s5.trans s6 (fun _ _ x => x)⟩
        rw [List.getElem?_eq_getElem (show m - 1 < ks.length by omega)]; exact F2
      rcases Nat.eq_zero_or_pos j with j0 | jp
      · subst j0
        have c0 : ((0 : Int) > 0) = False := by simp
        have cl : ((0 : Int) < ((d - 1 : Nat) : Int)) = True := by simp; omega
        have cj : ((0 : Int) < (d : Int)) = True := by simp; omega
        have w01 : wrapF .i64 1 = 1 := by decide
        obtain ⟨h6, K1, K2, sk⟩ := key 1 h4 (Nat.le_refl _) (by omega) (Same.refl _ _)
        obtain ⟨k5, h7, F1, F2, ⟨us7, w7, n7⟩, s7⟩ := slot h6 sk
        have e1 : (ks[1 - 1]?).getD 0 - 1 = to := by
          rw [← hto, if_pos (by omega)]
        have hb := hkl 0 (by omega)
        have wk : wrapF .i64 ((ks[1 - 1]?).getD 0 - 1) = to := by
          rw [e1, wrapI]
          · rw [← e1, show 1 - 1 = 0 by rfl, List.getElem?_eq_getElem (show 0 < ks.length by omega)]
            simp only [Option.getD_some] at hb ⊢
            simp at hb; omega
          · omega
        have efr : lo = fr := by rw [← hfr, if_pos rfl]
        rw [← efr] at F2
        simp only [cwf_seq, cwf_ops, c_true, c_false, cwf_skip, cwf_block, andThen_normal, owf_nil, o_p, owf_call, bo_eq, optQ_some, pop, popQ, ev, evs, putA, look_put, isB_true, isB_false, abinF_eq, abin, Int.reduceAdd, Int.cast_ofNat_Int, decide_true, decide_false, cond_true, ite_true, ite_false, Bool.not_false, Nat.reduceEqDiff, t1, t2, t3, t9, t12, t94, t95, cj, c0, wd, cl, w01]
        refine ⟨_, _, K1, ?_⟩
        simp only [owf_call, behind_eq, ev, evs, putA, look_put, ite_true, ite_false, Nat.reduceEqDiff]
        refine ⟨_, _, K2, ?_⟩
        simp only [cwf_seq, cwf_ops, andThen_normal, owf_nil, o_p, owf_call, behind_eq, bo_eq, optQ_some, pop, popQ, ev, evs, putA, look_put, abinF_eq, abin, Nat.reduceSub, decide_true, cond_true, ite_true, ite_false, Nat.reduceEqDiff, t0, t1, t12, wk]
        refine ⟨_, _, F1, ?_⟩
        simp only [o_p, owf_call, behind_eq, bo_eq, optQ_some, pop, popQ, ev, evs, putA, look_put, Nat.add_zero, ite_true, ite_false, Nat.reduceEqDiff]
        refine ⟨_, _, F2, ?_⟩
        simp only [cwf_ops, c_false, cwf_skip, andThen_normal, blockQ_normal, roundQ_normal, owf_nil, o_p, behind_eq, bo_eq, optQ_some, pop, popQ, ev, putA, look_put, isB_false, abinF_eq, abin, Int.reduceAdd, Int.cast_ofNat_Int, decide_true, cond_true, ite_true, ite_false, Bool.not_true, Bool.not_false, Nat.reduceEqDiff, true_and, t0, t1, t2, t3, t9, t12, t94, t95, w01]
        exact ⟨d - 1, by omega, 1, us7, rfl, by omega, rfl, w7, n7, s7⟩
      · have c0 : ((j : Int) > 0) = True := by simp; omega
        obtain ⟨h6, K1, K2, sk⟩ := key j h4 jp (by omega) (Same.refl _ _)
        have efr : (ks[j - 1]?).getD 0 = fr := by rw [← hfr, if_neg (by omega)]
        rw [efr] at K2
        by_cases jl : j < ks.length
        · have cl : ((j : Int) < ((d - 1 : Nat) : Int)) = True := by simp; omega
          obtain ⟨h8, L1, L2, sl⟩ := key (j + 1) h6 (by omega) (by omega) sk
          obtain ⟨k5, h7, F1, F2, ⟨us7, w7, n7⟩, s7⟩ := slot h8 sl
          have hb := hkl j jl
          have e1 : (ks[j + 1 - 1]?).getD 0 - 1 = to := by
            rw [← hto, if_pos jl, show j + 1 - 1 = j by omega]
          have wk : wrapF .i64 ((ks[j + 1 - 1]?).getD 0 - 1) = to := by
            rw [e1, wrapI]
            · rw [← e1, show j + 1 - 1 = j by omega, List.getElem?_eq_getElem jl]
              simp only [Option.getD_some]
              omega
            · omega
          simp only [cwf_seq, cwf_ops, c_true, cwf_skip, cwf_block, andThen_normal, owf_nil, o_p, owf_call, bo_eq, optQ_some, pop, popQ, ev, evs, putA, look_put, isB_true, abinF_eq, abin, decide_true, cond_true, ite_true, ite_false, Nat.reduceEqDiff, t1, t2, t3, t9, t94, t95, cj, c0]
          refine ⟨_, _, K1, ?_⟩
          simp only [owf_call, behind_eq, ev, evs, putA, look_put, ite_true, ite_false, Nat.reduceEqDiff]
          refine ⟨_, _, K2, ?_⟩
          simp only [cwf_seq, cwf_ops, c_true, andThen_normal, owf_nil, o_p, owf_call, behind_eq, bo_eq, optQ_some, pop, popQ, ev, evs, putA, look_put, isB_true, abinF_eq, abin, decide_true, cond_true, ite_true, ite_false, Nat.reduceEqDiff, t1, t9, t12, wd, cl, wj]
          refine ⟨_, _, L1, ?_⟩
          simp only [owf_call, behind_eq, ev, evs, putA, look_put, ite_true, ite_false, Nat.reduceEqDiff]
          refine ⟨_, _, L2, ?_⟩
          simp only [cwf_seq, cwf_ops, andThen_normal, owf_nil, o_p, owf_call, behind_eq, bo_eq, optQ_some, pop, popQ, ev, evs, putA, look_put, abinF_eq, abin, decide_true, cond_true, ite_true, ite_false, Nat.reduceEqDiff, t0, t1, t12, wk]
          refine ⟨_, _, F1, ?_⟩
          simp only [o_p, owf_call, behind_eq, bo_eq, optQ_some, pop, popQ, ev, evs, putA, look_put, ite_true, ite_false, Nat.reduceEqDiff]
          refine ⟨_, _, F2, ?_⟩
          simp only [cwf_ops, c_false, cwf_skip, andThen_normal, blockQ_normal, roundQ_normal, owf_nil, o_p, behind_eq, bo_eq, optQ_some, pop, popQ, ev, putA, look_put, isB_false, abinF_eq, abin, decide_true, cond_true, ite_true, ite_false, Bool.not_true, Bool.not_false, Nat.reduceEqDiff, true_and, t0, t1, t2, t3, t9, t12, t94, t95, wj]
          exact ⟨d - (j + 1), by omega, j + 1, us7, rfl, by omega, rfl, w7, n7, s7⟩
        · have cl : ((j : Int) < ((d - 1 : Nat) : Int)) = False := by simp; omega
          obtain ⟨k5, h7, F1, F2, ⟨us7, w7, n7⟩, s7⟩ := slot h6 sk
          have eto : hi = to := by rw [← hto, if_neg jl]
          rw [← eto] at F2
          simp only [cwf_seq, cwf_ops, c_true, cwf_skip, cwf_block, andThen_normal, owf_nil, o_p, owf_call, bo_eq, optQ_some, pop, popQ, ev, evs, putA, look_put, isB_true, abinF_eq, abin, decide_true, cond_true, ite_true, ite_false, Nat.reduceEqDiff, t1, t2, t3, t9, t94, t95, cj, c0]
          refine ⟨_, _, K1, ?_⟩
          simp only [owf_call, behind_eq, ev, evs, putA, look_put, ite_true, ite_false, Nat.reduceEqDiff]
          refine ⟨_, _, K2, ?_⟩
          simp only [cwf_seq, cwf_ops, c_false, cwf_skip, andThen_normal, owf_nil, o_p, owf_call, behind_eq, bo_eq, optQ_some, pop, popQ, ev, evs, putA, look_put, isB_false, abinF_eq, abin, decide_true, decide_false, cond_true, ite_true, ite_false, Bool.not_false, Nat.reduceEqDiff, t0, t1, t12, wd, cl]
          refine ⟨_, _, F1, ?_⟩
          simp only [o_p, owf_call, behind_eq, bo_eq, optQ_some, pop, popQ, ev, evs, putA, look_put, ite_true, ite_false, Nat.reduceEqDiff]
          refine ⟨_, _, F2, ?_⟩
          simp only [cwf_ops, c_false, cwf_skip, andThen_normal, blockQ_normal, roundQ_normal, owf_nil, o_p, behind_eq, bo_eq, optQ_some, pop, popQ, ev, putA, look_put, isB_false, abinF_eq, abin, decide_true, cond_true, ite_true, ite_false, Bool.not_true, Bool.not_false, Nat.reduceEqDiff, true_and, t0, t1, t2, t3, t9, t12, t94, t95, wj]
          exact ⟨d - (j + 1), by omega, j + 1, us7, rfl, by omega, rfl, w7, n7, s7⟩
    · have hjd : j = d := by omega
      have cj : ((j : Int) < d) = False := by simp; omega
      simp only [cwf_seq, cwf_ops, cwf_ret, c_false, cwf_exit, andThen_normal, andThen_exit, blockQ_exit, roundQ_exit, fnQ_ret, owf_nil, o_p, bo_eq, optQ_some, pop, popQ, ev, putA, look_put, isB_false, abinF_eq, abin, resAll, resA, mkRes1, decide_true, decide_false, cond_true, ite_true, ite_false, Bool.not_false, Nat.reduceEqDiff, Option.some.injEq, exists_eq_left', true_and, t94, t95, cj]
      rw [tail_marks h0 h4 s4.marks]
      rw [hjd, hd, List.take_length, ← hd] at w4
      exact ⟨⟨us', w4, n4⟩, s4⟩
end
end
end Go.Proofs.YtpeihcpclcibgaaGreat.Ai
/- An Inner, a record, the whole tree. -/
namespace Go.Proofs.YtpeihcpclcibgaaGreat.Ai
open Go.Proofs.YtpeihcpclcibgaaGreat
noncomputable section
open Go.RowKit
structure HasV4 (tab : Nat → Option AFunc) : Prop where
  v77 : tab 76 = some af76

theorem hasV4 : HasV4 tabT.get := ⟨by kernel_rfl⟩

section
variable {P : Program} {tab : Nat → Option AFunc} (hT : TabOk P tab) (V : HasV tab)
include hT V

theorem inner_rec (H : Has tab) (V2 : HasV2 tab) (V3 : HasV3 tab) {a : Nat} {sz sh ch sm : Int} {ks : List Int} {cs : List Tr} (ih : ∀ t ∈ cs, RecP P t) {h : Heap} {bt bm ut : Nat} {us um : Option Nat} {C : List Int} {z c o r : Int} {T : List Bool} {Sp : List Pr} {bs : Bool} {lo hi : Int} (w : Vw h bt bm ut us um C z c o r T Sp bs) (hok : (Tr.inner a sz sh ch sm ks cs).ok C) (hord : (Tr.inner a sz sh ch sm ks cs).ord lo hi) (hfree : (Tr.inner a sz sh ch sm ks cs).free T) (hC : C.length ≤ 65536) (hTl : T.length = C.length + 1) (hsp : Sp.length + (Tr.inner a sz sh ch sm ks cs).spots.length ≤ 100000) (h1 : -9223372036854775808 ≤ lo) (h2 : hi ≤ 9223372036854775807) :
    FSpec P 234 [.pointer (some ⟨bt, 0, none⟩), I a, I lo, I hi] h fun v h' => v = .bool true ∧ (∃ us', Vw h' bt bm ut us' um C z c o r ((Tr.inner a sz sh ch sm ks cs).marks T) (Sp ++ (Tr.inner a sz sh ch sm ks cs).spots) (bs || (Tr.inner a sz sh ch sm ks cs).busy) ∧ ∀ y, us' = some y → us = some y ∨ h.next ≤ y) ∧ Same h h' (VwS bt ut us) := by
  refine fspec_cwf hT V3.v136 rfl ?_
  obtain ⟨⟨q1, q2, q3, q4⟩, ⟨p0, p1, p2, p3, p4⟩, hsh, hsz, hks, hcs, hoks⟩ := hok
  have hord' : ords lo hi ks cs := hord
  obtain ⟨hf1, hf2⟩ := hfree
  have hsp' : Sp.length + (spotss (a + 4 + cs.length) cs).length ≤ 100000 := hsp
  obtain ⟨d, hd⟩ : ∃ d, d = cs.length := ⟨_, rfl⟩
  rw [← hd] at q2 q3 p0 hf1 hf2 hsp'
  -- the record's own cells
  have F0 : Fact P 14 [.pointer (some ⟨bm, 0, none⟩), I a] h (I d) h := by
    obtain ⟨_, _, F, e, rfl⟩ := at_spec hT V w.mem a (by omega)
    rw [p0] at e; subst e; exact F
  have F2 : Fact P 14 [.pointer (some ⟨bm, 0, none⟩), I ((a + 2 : Nat) : Int)] h (I sh) h := by
    obtain ⟨_, _, F, e, rfl⟩ := at_spec hT V w.mem (a + 2) (by omega)
    rw [p2] at e; subst e; exact F
  obtain ⟨_, h, F4, rfl, rfl⟩ := used_spec hT H w.mem
  have r0 : h.rd bt 0 = some (.pointer (some ⟨bm, 0, none⟩)) := rd_of w.blk
  obtain ⟨_, h5, F5, rfl, w5, s5⟩ := take_spec hT V V2 w q1 (n := 2 * d + 4) (by omega) (by omega) (by omega) hf1
  have m5 := w5.mem
  obtain ⟨_, h5, F6, rfl, rfl⟩ := limit_spec hT V h5 sz hsz.1 hsz.2
  have F7 : Fact P 14 [.pointer (some ⟨bm, 0, none⟩), I ((a + 3 : Nat) : Int)] h5 (I ch) h5 := by
    obtain ⟨_, _, F, e, rfl⟩ := at_spec hT V m5 (a + 3) (by omega)
    rw [p3] at e; subst e; exact F
  have F8 : Fact P 14 [.pointer (some ⟨bm, 0, none⟩), I ((a + 1 : Nat) : Int)] h5 (I sz) h5 := by
    obtain ⟨_, _, F, e, rfl⟩ := at_spec hT V m5 (a + 1) (by omega)
    rw [p1] at e; subst e; exact F
  have wz : wrapF .i64 ((a : Int) + 0) = (a : Int) := by rw [wrapI] <;> omega
  have w1 : wrapF .i64 ((a : Int) + 1) = ((a + 1 : Nat) : Int) := by rw [wrapI] <;> omega
  have w2 : wrapF .i64 ((a : Int) + 2) = ((a + 2 : Nat) : Int) := by rw [wrapI] <;> omega
  have w3 : wrapF .i64 ((a : Int) + 3) = ((a + 3 : Nat) : Int) := by rw [wrapI] <;> omega
  have wd1 : wrapF .i64 (2 * (d : Int)) = ((2 * d : Nat) : Int) := by rw [wrapI] <;> omega
  have wd2 : wrapF .i64 (4 + ((2 * d : Nat) : Int)) = ((2 * d + 4 : Nat) : Int) := by rw [wrapI] <;> omega
  have c1 : ((d : Int) < 2) = False := by simp; omega
  have c2 : ((d : Int) > C.length) = False := by simp; omega
  -- is it busy?
  have fin : ∀ (h6 : Heap) (B1 : Bool) (ts : Ai.T Value), B1 = (bs || (decide (sh = 1) || decide (limN sz ≤ ch))) → Vw h6 bt bm ut us um C z c o r (setR T a (2 * d + 4)) Sp B1 → Same h h6 (VwS bt ut us) → look ts 0 = .pointer (some ⟨bt, 0, none⟩) → look ts 1 = I a → look ts 2 = I lo → look ts 3 = I hi → look ts 9 = .pointer (some ⟨bm, 0, none⟩) → look ts 10 = I d →
      cwf P 128 none rest234_5 ts h6 (fnQ h [.tmp 8] fun v h' => v = .bool true ∧ (∃ us', Vw h' bt bm ut us' um C z c o r ((Tr.inner a sz sh ch sm ks cs).marks T) (Sp ++ (Tr.inner a sz sh ch sm ks cs).spots) (bs || (Tr.inner a sz sh ch sm ks cs).busy) ∧ ∀ y, us' = some y → us = some y ∨ h.next ≤ y) ∧ Same h h' (VwS bt ut us)) := by
    intro h6 B1 ts hB w6 s6 t0 t1 t2 t3 t9 t10
    have := inner_tail hT V H V3 ih (h0 := h) hd w6 q2 q3 q4 hks hcs hoks hord' hf2 hC (by rw [setR_len]; exact hTl) hsp' h1 h2 s6 ts t0 t1 t2 t3 t9 t10
    have e1 : (Tr.inner a sz sh ch sm ks cs).marks T = markss (setR T a (2 * d + 4)) cs := by rw [hd]; rfl
    have e2 : (Tr.inner a sz sh ch sm ks cs).spots = spotss (a + 4 + d) cs := by rw [hd]; rfl
    have e3 : (bs || (Tr.inner a sz sh ch sm ks cs).busy) = (B1 || busys cs) := by
      rw [hB]; simp only [Tr.busy, Bool.or_assoc]
    rw [e1, e2, e3]
    exact this
  have mark : ∃ h6, h5.wrs bt 4 [.bool true] = some h6 ∧ Vw h6 bt bm ut us um C z c o r (setR T a (2 * d + 4)) Sp true ∧ Same h h6 (VwS bt ut us) := by
    have ww : h5.wrs bt 4 [.bool true] = some (h5.setB bt ⟨[.pointer (some ⟨bm, 0, none⟩), .slice (some ⟨ut, 0, none⟩) (setR T a (2 * d + 4)).length (setR T a (2 * d + 4)).length, ownSl us Sp.length, .slice none 0 0, .bool true], 5, 5, true, false⟩) := wrs1_of w5.blk rfl (by simp) rfl
    have sw : Same h5 (h5.setB bt ⟨[.pointer (some ⟨bm, 0, none⟩), .slice (some ⟨ut, 0, none⟩) (setR T a (2 * d + 4)).length (setR T a (2 * d + 4)).length, ownSl us Sp.length, .slice none 0 0, .bool true], 5, 5, true, false⟩) (fun j => j = bt) := Same.setB rfl
    refine ⟨_, ww, ⟨w5.mem.same sw (fun e => w.ne.1 e.symm) (fun y hy => (w.ne.2.2.2.1 y hy).1), ?_, ?_, w5.sp.same sw (fun y hy e => (w.ne.2.2.2.2 y hy).1 e), ⟨Nat.lt_of_lt_of_le w5.lt.1 sw.next, Nat.lt_of_lt_of_le w5.lt.2 sw.next⟩, w.ne⟩, (s5.mono (T := VwS bt ut us) (fun j e => .inr (.inl e))).trans sw (fun j hj e => .inl e)⟩
    · rw [setB_get, if_pos rfl]
    · rw [setB_get, if_neg w.ne.2.2.1]; exact w5.tk
  obtain ⟨h6, ww, w6, s6⟩ := mark
  show cwf P 128 none af234.body _ h (fnQ h [.tmp 8] _)
  rw [cut234_5]
  rcases hsh with rfl | rfl
  · have k0 : ((0 : Int) != 0) = false := rfl
    have k1 : ((0 : Int) == 1) = false := rfl
    by_cases hb : limN sz ≤ ch
    · have cb : (ch ≥ limN sz) = True := by simp; omega
      simp only [pre234_5, cwf_seq, cwf_ops, andThen_normal, owf_nil, o_p, o_r, owf_call, bo_eq, optQ_some, pop, popQ, rop_load1, ldV_ptr, ev, evs, putA, putArgs, look_put, abinF_eq, abin, Nat.add_zero, decide_true, cond_true, ite_true, ite_false, Nat.reduceEqDiff, Nat.reduceAdd, Nat.zero_add, r0, wz]
      refine ⟨_, _, F0, ?_⟩
      simp only [o_p, owf_call, behind_eq, bo_eq, optQ_some, pop, popQ, ev, evs, putA, look_put, abinF_eq, abin, decide_true, cond_true, ite_true, ite_false, Nat.reduceEqDiff, w2]
      refine ⟨_, _, F2, ?_⟩
      simp only [cwf_seq, cwf_ops, andThen_normal, owf_nil, o_p, owf_call, o_on, behind_eq, bo_eq, optQ_some, pop, popQ, ev, evs, putA, look_put, isB_false, abinF_eq, abin, decide_true, decide_false, cond_true, ite_true, ite_false, Bool.not_false, Nat.reduceEqDiff, c1]
      refine ⟨_, _, F4, ?_⟩
      simp only [o_p, owf_call, o_on, behind_eq, bo_eq, optQ_some, pop, popQ, ev, evs, putA, look_put, isB_false, abinF_eq, abin, decide_true, decide_false, cond_true, cond_false, ite_true, ite_false, Bool.not_false, Nat.reduceEqDiff, c2, wd1, wd2]
      refine ⟨_, _, F5, ?_⟩
      simp only [cwf_seq, cwf_ops, c_false, cwf_skip, andThen_normal, owf_nil, o_p, owf_call, o_on, o_off, behind_eq, bo_eq, optQ_some, pop, popQ, ev, evs, putA, look_put, isB_true, isB_false, abinF_eq, abin, decide_true, cond_true, cond_false, ite_true, ite_false, Bool.not_true, Bool.not_false, Nat.reduceEqDiff, k0, k1, w3]
      refine ⟨_, _, F7, ?_⟩
      simp only [o_p, owf_call, o_on, behind_eq, bo_eq, optQ_some, pop, popQ, ev, evs, putA, look_put, isB_false, abinF_eq, abin, decide_true, cond_true, ite_true, ite_false, Bool.not_false, Nat.reduceEqDiff, w1]
      refine ⟨_, _, F8, ?_⟩
      simp only [owf_call, o_on, behind_eq, ev, evs, putA, look_put, isB_false, ite_true, ite_false, Bool.not_false, Nat.reduceEqDiff]
      refine ⟨_, _, F6, ?_⟩
      simp only [cwf_ops, c_true, andThen_normal, owf_nil, o_p, o_e, o_on, behind_eq, bo_eq, optQ_some, opt2_some, pop, popQ, ev, putA, look_put, isB_true, isB_false, abinF_eq, abin, eop_store1, st1, scalar_bool, decide_true, cond_true, cond_false, ite_true, ite_false, Bool.not_false, Nat.reduceEqDiff, Nat.zero_add, cb, ww]
      exact fin h6 true _ (by simp [hb]) w6 s6 (by simp only [look_put, ite_true, ite_false, Nat.reduceEqDiff]) (by simp only [look_put, ite_true, ite_false, Nat.reduceEqDiff]) (by simp only [look_put, ite_true, ite_false, Nat.reduceEqDiff]) (by simp only [look_put, ite_true, ite_false, Nat.reduceEqDiff]) (by simp only [look_put, ite_true, ite_false, Nat.reduceEqDiff]) (by simp only [look_put, ite_true, ite_false, Nat.reduceEqDiff])
    · have cb : (ch ≥ limN sz) = False := by simp; omega
      simp only [pre234_5, cwf_seq, cwf_ops, andThen_normal, owf_nil, o_p, o_r, owf_call, bo_eq, optQ_some, pop, popQ, rop_load1, ldV_ptr, ev, evs, putA, putArgs, look_put, abinF_eq, abin, Nat.add_zero, decide_true, cond_true, ite_true, ite_false, Nat.reduceEqDiff, Nat.reduceAdd, Nat.zero_add, r0, wz]
      refine ⟨_, _, F0, ?_⟩
      simp only [o_p, owf_call, behind_eq, bo_eq, optQ_some, pop, popQ, ev, evs, putA, look_put, abinF_eq, abin, decide_true, cond_true, ite_true, ite_false, Nat.reduceEqDiff, w2]
      refine ⟨_, _, F2, ?_⟩
      simp only [cwf_seq, cwf_ops, andThen_normal, owf_nil, o_p, owf_call, o_on, behind_eq, bo_eq, optQ_some, pop, popQ, ev, evs, putA, look_put, isB_false, abinF_eq, abin, decide_true, decide_false, cond_true, ite_true, ite_false, Bool.not_false, Nat.reduceEqDiff, c1]
      refine ⟨_, _, F4, ?_⟩
      simp only [o_p, owf_call, o_on, behind_eq, bo_eq, optQ_some, pop, popQ, ev, evs, putA, look_put, isB_false, abinF_eq, abin, decide_true, decide_false, cond_true, cond_false, ite_true, ite_false, Bool.not_false, Nat.reduceEqDiff, c2, wd1, wd2]
      refine ⟨_, _, F5, ?_⟩
      simp only [cwf_seq, cwf_ops, c_false, cwf_skip, andThen_normal, owf_nil, o_p, owf_call, o_on, o_off, behind_eq, bo_eq, optQ_some, pop, popQ, ev, evs, putA, look_put, isB_true, isB_false, abinF_eq, abin, decide_true, cond_true, cond_false, ite_true, ite_false, Bool.not_true, Bool.not_false, Nat.reduceEqDiff, k0, k1, w3]
      refine ⟨_, _, F7, ?_⟩
      simp only [o_p, owf_call, o_on, behind_eq, bo_eq, optQ_some, pop, popQ, ev, evs, putA, look_put, isB_false, abinF_eq, abin, decide_true, cond_true, ite_true, ite_false, Bool.not_false, Nat.reduceEqDiff, w1]
      refine ⟨_, _, F8, ?_⟩
      simp only [owf_call, o_on, behind_eq, ev, evs, putA, look_put, isB_false, ite_true, ite_false, Bool.not_false, Nat.reduceEqDiff]
      refine ⟨_, _, F6, ?_⟩
      simp only [c_false, cwf_skip, andThen_normal, owf_nil, o_p, o_on, behind_eq, bo_eq, optQ_some, pop, popQ, ev, putA, look_put, isB_false, abinF_eq, abin, decide_true, decide_false, cond_true, cond_false, ite_true, ite_false, Bool.not_false, Nat.reduceEqDiff, cb]
      exact fin h5 bs _ (by simp [hb]) w5 (s5.mono (fun j e => .inr (.inl e))) (by simp only [look_put, ite_true, ite_false, Nat.reduceEqDiff]) (by simp only [look_put, ite_true, ite_false, Nat.reduceEqDiff]) (by simp only [look_put, ite_true, ite_false, Nat.reduceEqDiff]) (by simp only [look_put, ite_true, ite_false, Nat.reduceEqDiff]) (by simp only [look_put, ite_true, ite_false, Nat.reduceEqDiff]) (by simp only [look_put, ite_true, ite_false, Nat.reduceEqDiff])
  · have k0 : ((1 : Int) != 0) = true := rfl
    have k2 : ((1 : Int) != 1) = false := rfl
    have k1 : ((1 : Int) == 1) = true := rfl
    simp only [pre234_5, cwf_seq, cwf_ops, andThen_normal, owf_nil, o_p, o_r, owf_call, bo_eq, optQ_some, pop, popQ, rop_load1, ldV_ptr, ev, evs, putA, putArgs, look_put, abinF_eq, abin, Nat.add_zero, decide_true, cond_true, ite_true, ite_false, Nat.reduceEqDiff, Nat.reduceAdd, Nat.zero_add, r0, wz]
    refine ⟨_, _, F0, ?_⟩
    simp only [o_p, owf_call, behind_eq, bo_eq, optQ_some, pop, popQ, ev, evs, putA, look_put, abinF_eq, abin, decide_true, cond_true, ite_true, ite_false, Nat.reduceEqDiff, w2]
    refine ⟨_, _, F2, ?_⟩
    simp only [cwf_seq, cwf_ops, andThen_normal, owf_nil, o_p, owf_call, o_on, behind_eq, bo_eq, optQ_some, pop, popQ, ev, evs, putA, look_put, isB_false, abinF_eq, abin, decide_true, decide_false, cond_true, ite_true, ite_false, Bool.not_false, Nat.reduceEqDiff, c1]
    refine ⟨_, _, F4, ?_⟩
    simp only [o_p, owf_call, o_on, behind_eq, bo_eq, optQ_some, pop, popQ, ev, evs, putA, look_put, isB_false, abinF_eq, abin, decide_true, decide_false, cond_true, cond_false, ite_true, ite_false, Bool.not_false, Nat.reduceEqDiff, c2, wd1, wd2]
    refine ⟨_, _, F5, ?_⟩
    simp only [cwf_seq, cwf_ops, c_true, c_false, cwf_skip, andThen_normal, owf_nil, o_p, o_e, o_on, o_off, behind_eq, bo_eq, optQ_some, opt2_some, pop, popQ, ev, putA, look_put, isB_true, isB_false, abinF_eq, abin, eop_store1, st1, scalar_bool, decide_true, cond_true, cond_false, ite_true, ite_false, Bool.not_true, Bool.not_false, Nat.reduceEqDiff, Nat.zero_add, k0, k1, k2, ww]
    exact fin h6 true _ (by simp) w6 s6 (by simp only [look_put, ite_true, ite_false, Nat.reduceEqDiff]) (by simp only [look_put, ite_true, ite_false, Nat.reduceEqDiff]) (by simp only [look_put, ite_true, ite_false, Nat.reduceEqDiff]) (by simp only [look_put, ite_true, ite_false, Nat.reduceEqDiff]) (by simp only [look_put, ite_true, ite_false, Nat.reduceEqDiff]) (by simp only [look_put, ite_true, ite_false, Nat.reduceEqDiff])

theorem record_rec (H : Has tab) (V2 : HasV2 tab) (V3 : HasV3 tab) : ∀ t : Tr, RecP P t := by
  intro t
  induction t using Tr.ind with
  | e a =>
    intro h bt bm ut us um C z c o r T Sp bs lo hi w hok hord hfree hC hTl hsp h1 h2
    refine fspec_cwf hT V3.v127 rfl ?_
    have hok' : 1 ≤ a ∧ a ≤ C.length := hok
    have hf : freeR T a 1 := hfree
    obtain ⟨_, h, F1, rfl, rfl⟩ := refat_spec hT V H h a 1 hok'.1 (by omega) (by omega) (by omega)
    obtain ⟨_, h, F2, rfl, rfl⟩ := kind_spec hT V H h a 1 hok'.1 (by omega) (by omega) (by omega)
    obtain ⟨_, h3, F3, rfl, w3, s3⟩ := take_spec hT V V2 w hok'.1 (n := 1) (by omega) (by omega) (by omega) hf
    have ew : (Tr.empty a).word = (a : Int) * 8 + ((1 : Nat) : Int) := rfl
    have k1 : ((1 : Int) == 1) = true := rfl
    rw [ew]
    simp only [af181, cwf_seq, cwf_ops, andThen_normal, owf_nil, o_p, owf_call, bo_eq, optQ_some, pop, popQ, ev, evs, putA, putArgs, look_put, Int.cast_ofNat_Int, ite_true, ite_false, Nat.reduceEqDiff, Nat.reduceAdd, Nat.zero_add]
    refine ⟨_, _, F1, ?_⟩
    simp only [cwf_seq, cwf_ops, andThen_normal, owf_nil, o_p, owf_call, behind_eq, bo_eq, optQ_some, pop, popQ, ev, evs, putA, look_put, ite_true, ite_false, Nat.reduceEqDiff]
    refine ⟨_, _, F2, ?_⟩
    simp only [cwf_seq, cwf_ops, c_true, cwf_block, andThen_normal, owf_nil, o_p, owf_call, behind_eq, bo_eq, optQ_some, pop, popQ, ev, evs, putA, look_put, isB_true, abinF_eq, abin, Int.cast_ofNat_Int, decide_true, cond_true, ite_true, ite_false, Nat.reduceEqDiff, k1]
    refine ⟨_, _, F3, ?_⟩
    simp only [cwf_ret, andThen_normal, andThen_ret, blockQ_ret, fnQ_ret, owf_nil, o_p, behind_eq, bo_eq, optQ_some, pop, popQ, ev, putA, look_put, resAll, resA, mkRes1, ite_true, ite_false, Nat.reduceEqDiff, Option.some.injEq, exists_eq_left', true_and]
    rw [tail_marks h h3 s3.marks]
    refine ⟨⟨us, ?_, fun y hy => .inl hy⟩, s3.mono (fun j e => .inr (.inl e))⟩
    have e1 : Sp ++ (Tr.empty a).spots = Sp := List.append_nil _
    have e2 : (bs || (Tr.empty a).busy) = bs := Bool.or_false _
    rw [e1, e2]; exact w3
  | l a k v =>
    intro h bt bm ut us um C z c o r T Sp bs lo hi w hok hord hfree hC hTl hsp h1 h2
    refine fspec_cwf hT V3.v127 rfl ?_
    obtain ⟨q1, q2, q3, q4⟩ := hok
    have hf : freeR T a 2 := hfree
    have hord' : lo ≤ k ∧ k ≤ hi := hord
    obtain ⟨_, h, F1, rfl, rfl⟩ := refat_spec hT V H h a 2 q1 (by omega) (by omega) (by omega)
    obtain ⟨_, h, F2, rfl, rfl⟩ := kind_spec hT V H h a 2 q1 (by omega) (by omega) (by omega)
    have F4 : Fact P 14 [.pointer (some ⟨bm, 0, none⟩), I a] h (I k) h := by
      obtain ⟨_, _, F, e, rfl⟩ := at_spec hT V w.mem a (by omega)
      rw [q3] at e; subst e; exact F
    obtain ⟨_, h3, F3, rfl, w3, s3⟩ := take_spec hT V V2 w q1 (n := 2) (by omega) (by omega) (by omega) hf
    have r0 : h.rd bt 0 = some (.pointer (some ⟨bm, 0, none⟩)) := rd_of w.blk
    have wz : wrapF .i64 ((a : Int) + 0) = (a : Int) := by rw [wrapI] <;> omega
    have ew : (Tr.leaf a k v).word = (a : Int) * 8 + ((2 : Nat) : Int) := rfl
    have k1 : ((2 : Int) == 1) = false := rfl
    have k2 : ((2 : Int) == 2) = true := rfl
    have cl : (k ≥ lo) = True := by simp; omega
    have ch : (k ≤ hi) = True := by simp; omega
    rw [ew]
    simp only [af181, cwf_seq, cwf_ops, andThen_normal, owf_nil, o_p, owf_call, bo_eq, optQ_some, pop, popQ, ev, evs, putA, putArgs, look_put, Int.cast_ofNat_Int, ite_true, ite_false, Nat.reduceEqDiff, Nat.reduceAdd, Nat.zero_add]
    refine ⟨_, _, F1, ?_⟩
    simp only [cwf_seq, cwf_ops, andThen_normal, owf_nil, o_p, owf_call, behind_eq, bo_eq, optQ_some, pop, popQ, ev, evs, putA, look_put, ite_true, ite_false, Nat.reduceEqDiff]
    refine ⟨_, _, F2, ?_⟩
    simp only [cwf_seq, cwf_ops, c_true, c_false, cwf_block, andThen_normal, owf_nil, o_p, o_r, owf_call, behind_eq, bo_eq, optQ_some, pop, popQ, rop_load1, ldV_ptr, ev, evs, putA, look_put, isB_true, isB_false, abinF_eq, abin, Nat.add_zero, Int.cast_ofNat_Int, decide_true, cond_true, ite_true, ite_false, Bool.not_false, Nat.reduceEqDiff, k1, k2, r0, wz]
    refine ⟨_, _, F4, ?_⟩
    simp only [cwf_seq, cwf_ops, andThen_normal, owf_nil, o_p, owf_call, behind_eq, bo_eq, optQ_some, pop, popQ, ev, evs, putA, look_put, ite_true, ite_false, Nat.reduceEqDiff]
    refine ⟨_, _, F3, ?_⟩
    simp only [cwf_ret, andThen_normal, andThen_ret, blockQ_ret, fnQ_ret, owf_nil, o_p, o_on, behind_eq, bo_eq, optQ_some, pop, popQ, ev, putA, look_put, isB_true, abinF_eq, abin, resAll, resA, mkRes1, decide_true, cond_true, ite_true, ite_false, Nat.reduceEqDiff, Option.some.injEq, exists_eq_left', true_and, cl, ch]
    rw [tail_marks h h3 s3.marks]
    refine ⟨⟨us, ?_, fun y hy => .inl hy⟩, s3.mono (fun j e => .inr (.inl e))⟩
    have e1 : Sp ++ (Tr.leaf a k v).spots = Sp := List.append_nil _
    have e2 : (bs || (Tr.leaf a k v).busy) = bs := Bool.or_false _
    rw [e1, e2]; exact w3
  | i a sz sh ch sm ks cs ih =>
    intro h bt bm ut us um C z c o r T Sp bs lo hi w hok hord hfree hC hTl hsp h1 h2
    refine fspec_cwf hT V3.v127 rfl ?_
    have q1 : 1 ≤ a := hok.1.1
    have q2 : a + (2 * cs.length + 4) ≤ C.length + 1 := hok.1.2.1
    obtain ⟨_, h, F1, rfl, rfl⟩ := refat_spec hT V H h a 3 q1 (by omega) (by omega) (by omega)
    obtain ⟨_, h, F2, rfl, rfl⟩ := kind_spec hT V H h a 3 q1 (by omega) (by omega) (by omega)
    obtain ⟨_, h3, F3, rfl, hw3, s3⟩ := inner_rec hT V H V2 V3 ih w hok hord hfree hC hTl hsp h1 h2
    have ew : (Tr.inner a sz sh ch sm ks cs).word = (a : Int) * 8 + ((3 : Nat) : Int) := rfl
    have k1 : ((3 : Int) == 1) = false := rfl
    have k2 : ((3 : Int) == 2) = false := rfl
    have k3 : ((3 : Int) == 3) = true := rfl
    rw [ew]
    simp only [af181, cwf_seq, cwf_ops, andThen_normal, owf_nil, o_p, owf_call, bo_eq, optQ_some, pop, popQ, ev, evs, putA, putArgs, look_put, Int.cast_ofNat_Int, ite_true, ite_false, Nat.reduceEqDiff, Nat.reduceAdd, Nat.zero_add]
    refine ⟨_, _, F1, ?_⟩
    simp only [cwf_seq, cwf_ops, andThen_normal, owf_nil, o_p, owf_call, behind_eq, bo_eq, optQ_some, pop, popQ, ev, evs, putA, look_put, ite_true, ite_false, Nat.reduceEqDiff]
    refine ⟨_, _, F2, ?_⟩
    simp only [cwf_seq, cwf_ops, c_true, c_false, cwf_block, andThen_normal, owf_nil, o_p, owf_call, behind_eq, bo_eq, optQ_some, pop, popQ, ev, evs, putA, look_put, isB_true, isB_false, abinF_eq, abin, Int.cast_ofNat_Int, decide_true, cond_true, ite_true, ite_false, Bool.not_false, Nat.reduceEqDiff, k1, k2, k3]
    refine ⟨_, _, F3, ?_⟩
    simp only [cwf_ret, andThen_normal, andThen_ret, blockQ_ret, fnQ_ret, owf_nil, o_p, behind_eq, bo_eq, optQ_some, pop, popQ, ev, putA, look_put, resAll, resA, mkRes1, ite_true, ite_false, Nat.reduceEqDiff, Option.some.injEq, exists_eq_left', true_and]
    rw [tail_marks h h3 s3.marks]
    exact ⟨hw3, s3⟩

/-- the base, taken -/
def base0 (n : Nat) : List Bool := setR (List.replicate (n + 1) false) 1 6

/-- a memory whose Root leads to a tree -/
structure Rooted (C : List Int) (t : Tr) : Prop where
  len : 7 ≤ C.length ∧ C.length ≤ 65536
  base : at0 C 1 = 1 ∧ at0 C 3 = 0
  root : at0 C 6 = t.word
  ok : t.ok C
  ord : t.ord (-9223372036854775808) 9223372036854775807
  free : t.free (base0 C.length)
  few : t.spots.length < 90000

theorem survey_spec (H : Has tab) (V2 : HasV2 tab) (V3 : HasV3 tab) (V4 : HasV4 tab) {h : Heap} {bm : Nat} {um : Option Nat} {C : List Int} {z c o r : Int} {t : Tr} (m : MemAt h bm um C z c o r) (R : Rooted C t) :
    FSpec P 76 [.pointer (some ⟨bm, 0, none⟩)] h fun v h' => ∃ bt ut us, v = .tuple #[.pointer (some ⟨bt, 0, none⟩), .bool true] ∧ Vw h' bt bm ut us um C z c o r (t.marks (base0 C.length)) (((6 : Int), t.word) :: t.spots) t.busy ∧ h.next ≤ bt ∧ Same h h' (fun _ => False) := by
  refine fspec_cwf hT V4.v77 rfl ?_
  obtain ⟨_, h, F1, rfl, rfl⟩ := used_spec hT H m
  have hl := R.len
  have hbm := m.lt
  have huml := fun y hy => (m.use y hy).2.2.1
  have wl : wrapF .i64 ((C.length : Int) + 1) = ((C.length + 1 : Nat) : Int) := by rw [wrapI] <;> omega
  have mk := mkS_ok (h := h) (s := 1) (bytes := 1) (n := C.length + 1) (zero := [.bool false]) (by omega) (by omega)
  have erep : rep [Value.bool false] (C.length + 1) = (List.replicate (C.length + 1) false).map .bool := by
    generalize C.length + 1 = n
    induction n with
    | zero => rfl
    | succ n ih => rw [rep, ih]; rfl
  rw [erep] at mk
  have s1 : Same h (h.new ⟨(List.replicate (C.length + 1) false).map .bool, (C.length + 1) * 1, 1, true, false⟩) (fun _ => False) := Same.new
  have x1 : (h.new ⟨(List.replicate (C.length + 1) false).map .bool, (C.length + 1) * 1, 1, true, false⟩).next = h.next + 1 := rfl
  have g1 : (h.new ⟨(List.replicate (C.length + 1) false).map .bool, (C.length + 1) * 1, 1, true, false⟩).blks.get h.next = some ⟨(List.replicate (C.length + 1) false).map .bool, (C.length + 1) * 1, 1, true, false⟩ := by rw [new_get, if_pos rfl]
  generalize hh1 : h.new ⟨(List.replicate (C.length + 1) false).map .bool, (C.length + 1) * 1, 1, true, false⟩ = h1 at mk s1 x1 g1
  have s2 : Same h1 (h1.new ⟨[.pointer (some ⟨bm, 0, none⟩), .slice (some ⟨h.next, 0, none⟩) (C.length + 1) (C.length + 1), .slice none 0 0, .slice none 0 0, .bool false], 5, 5, true, false⟩) (fun _ => False) := Same.new
  have g2 : (h1.new ⟨[.pointer (some ⟨bm, 0, none⟩), .slice (some ⟨h.next, 0, none⟩) (C.length + 1) (C.length + 1), .slice none 0 0, .slice none 0 0, .bool false], 5, 5, true, false⟩).blks.get h1.next = some ⟨[.pointer (some ⟨bm, 0, none⟩), .slice (some ⟨h.next, 0, none⟩) (C.length + 1) (C.length + 1), .slice none 0 0, .slice none 0 0, .bool false], 5, 5, true, false⟩ := by rw [new_get, if_pos rfl]
  have x2 : (h1.new ⟨[.pointer (some ⟨bm, 0, none⟩), .slice (some ⟨h.next, 0, none⟩) (C.length + 1) (C.length + 1), .slice none 0 0, .slice none 0 0, .bool false], 5, 5, true, false⟩).next = h1.next + 1 := rfl
  generalize hh2 : h1.new ⟨[.pointer (some ⟨bm, 0, none⟩), .slice (some ⟨h.next, 0, none⟩) (C.length + 1) (C.length + 1), .slice none 0 0, .slice none 0 0, .bool false], 5, 5, true, false⟩ = h2 at s2 g2 x2
  have w2 : Vw h2 h1.next bm h.next none um C z c o r (List.replicate (C.length + 1) false) [] false := by
    refine ⟨(m.same s1 (fun x => x) (fun _ _ x => x)).same s2 (fun x => x) (fun _ _ x => x), ?_, ?_, OwnAt.nil _ _, ⟨by omega, by omega⟩, by omega, by omega, by omega, fun y hy => ?_, fun y hy => by cases hy⟩
    · rw [g2]; simp
    · rw [s2.get h.next (by omega) (fun x => x), g1]; simp
    · have := huml y hy; omega
  obtain ⟨_, h3, F3, rfl, w3, s3⟩ := take_spec hT V V2 w2 (a := 1) (n := 6) (by omega) (by omega) (by simp; omega) (by simp; omega) (fun i h1 h2 => by rw [List.getElem?_replicate, if_pos (by omega)])
  have F4 : Fact P 14 [.pointer (some ⟨bm, 0, none⟩), I 1] h3 (I 1) h3 := by
    obtain ⟨_, _, F, e, rfl⟩ := at_spec hT V w3.mem 1 (by omega)
    rw [R.base.1] at e; subst e; exact F
  have F5 : Fact P 14 [.pointer (some ⟨bm, 0, none⟩), I 3] h3 (I 0) h3 := by
    obtain ⟨_, _, F, e, rfl⟩ := at_spec hT V w3.mem 3 (by omega)
    rw [R.base.2] at e; subst e; exact F
  obtain ⟨_, h6, F6, rfl, ⟨us, w6, n6⟩, s6⟩ := slot_spec hT V H V3 (record_rec hT V H V2 V3 t) w3 R.ok R.ord R.free hl.2 (by rw [setR_len]; simp) (s := 6) (by omega) R.root (by have := R.few; simp; omega) (by omega) (by omega)
  have c1 : ((1 : Int) != 1) = false := rfl
  have c0 : ((0 : Int) != 0) = false := rfl
  simp only [af76, cwf_seq, cwf_ops, andThen_normal, owf_nil, o_p, owf_call, bo_eq, optQ_some, pop, popQ, ev, evs, putA, putArgs, look_put, Int.reduceNeg, ite_true, ite_false, Nat.reduceEqDiff]
  refine ⟨_, _, F1, ?_⟩
  simp only [cwf_seq, cwf_ops, andThen_normal, owf_nil, o_p, o_e, owf_call, behind_eq, bo_eq, optQ_some, opt2_some, pop, popQ, ev, evs, putA, look_put, abinF_eq, abin, eop_box, boxV5, evP_nil, evP_cons, fillA_nil, fillA_one, List.length_cons, List.length_nil, List.set_cons_zero, List.set_cons_succ, Nat.reduceLT, Int.reduceNeg, scalar_slice, scalar_ptr, decide_true, cond_true, ite_true, ite_false, Nat.reduceEqDiff, Nat.reduceAdd, Nat.zero_add, wl, eop_mkS, mk, hh2]
  refine ⟨_, _, F3, ?_⟩
  simp only [o_p, owf_call, o_on, behind_eq, bo_eq, optQ_some, pop, popQ, ev, evs, putA, look_put, isB_false, Int.reduceNeg, ite_true, ite_false, Bool.not_true, Bool.not_false, Nat.reduceEqDiff]
  refine ⟨_, _, F4, ?_⟩
  simp only [o_p, owf_call, o_on, behind_eq, bo_eq, optQ_some, pop, popQ, ev, evs, putA, look_put, isB_false, abinF_eq, abin, Int.reduceNeg, decide_true, cond_true, cond_false, ite_true, ite_false, Bool.not_false, Nat.reduceEqDiff, c1]
  refine ⟨_, _, F5, ?_⟩
  simp only [cwf_seq, cwf_ops, c_false, cwf_skip, andThen_normal, owf_nil, o_p, owf_call, o_on, behind_eq, bo_eq, optQ_some, pop, popQ, ev, evs, putA, look_put, isB_false, abinF_eq, abin, Int.reduceNeg, decide_true, cond_true, cond_false, ite_true, ite_false, Bool.not_false, Nat.reduceEqDiff, c0]
  refine ⟨_, _, F6, ?_⟩
  simp only [cwf_seq, cwf_ops, cwf_ret, c_false, cwf_skip, andThen_normal, fnQ_ret, owf_nil, o_p, behind_eq, bo_eq, optQ_some, pop, popQ, ev, putA, look_put, isB_false, resAll, resA, mkRes2, ite_true, ite_false, Bool.not_true, Bool.not_false, Nat.reduceEqDiff, Option.some.injEq, exists_eq_left']
  have sf : Same h h6 (fun _ => False) := ((s1.trans s2 (fun _ _ x => x)).trans s3 (fun j hj e => by omega)).trans s6 (fun j hj e => by
    have := s3.next
    rcases e with e | e | e
    · omega
    · omega
    · cases e)
  rw [tail_marks h h6 sf.marks]
  refine ⟨h1.next, h.next, us, rfl, ?_, by omega, sf⟩
  exact w6
end
end
end Go.Proofs.YtpeihcpclcibgaaGreat.Ai
/- Is it sound, is it calm; the children of an Inner, one by one; its Leaves. -/
namespace Go.Proofs.YtpeihcpclcibgaaGreat.Ai
open Go.Proofs.YtpeihcpclcibgaaGreat
noncomputable section
open Go.RowKit
structure HasV5 (tab : Nat → Option AFunc) : Prop where
  v46 : tab 46 = some af46
  v47 : tab 49 = some af49
  v109 : tab 130 = some af130
  v125 : tab 184 = some af184
  v75 : tab 78 = some af78
  v107 : tab 129 = some af129

theorem hasV5 : HasV5 tabT.get := ⟨by kernel_rfl, by kernel_rfl, by kernel_rfl, by kernel_rfl, by kernel_rfl, by kernel_rfl⟩

section
variable {P : Program} {tab : Nat → Option AFunc} (hT : TabOk P tab) (V : HasV tab)
include hT V

theorem sound_spec (H : Has tab) (V2 : HasV2 tab) (V3 : HasV3 tab) (V4 : HasV4 tab) (V5 : HasV5 tab) {h : Heap} {bm : Nat} {um : Option Nat} {C : List Int} {z c o r : Int} {t : Tr} (m : MemAt h bm um C z c o r) (R : Rooted C t) : FSpec P 46 [.pointer (some ⟨bm, 0, none⟩)] h fun v h' => v = .bool true ∧ Same h h' (fun _ => False) := by
  refine fspec_cwf hT V5.v46 rfl ?_
  obtain ⟨_, h1, F1, bt, ut, us, rfl, w, _, s1⟩ := survey_spec hT V H V2 V3 V4 m R
  simp only [af46, cwf_seq, cwf_ops, andThen_normal, owf_nil, o_p, owf_call, bo_eq, optQ_some, pop, popQ, ev, evs, putA, putArgs, look_put, ite_true, ite_false, Nat.reduceEqDiff]
  refine ⟨_, _, F1, ?_⟩
  simp only [cwf_seq, cwf_ops, cwf_ret, andThen_normal, fnQ_ret, owf_nil, o_p, behind_eq, bo_eq, optQ_some, pop, popQ, ev, putA, look_put, resAll, resA, mkRes1, ite_true, ite_false, Nat.reduceEqDiff, Option.some.injEq, exists_eq_left', true_and, List.getElem?_cons_zero, List.getElem?_cons_succ]
  rw [tail_marks h h1 s1.marks]
  exact s1

theorem calm_spec (H : Has tab) (V2 : HasV2 tab) (V3 : HasV3 tab) (V4 : HasV4 tab) (V5 : HasV5 tab) {h : Heap} {bm : Nat} {um : Option Nat} {C : List Int} {z c o r : Int} {t : Tr} (m : MemAt h bm um C z c o r) (R : Rooted C t) : FSpec P 49 [.pointer (some ⟨bm, 0, none⟩)] h fun v h' => v = .bool (!t.busy) ∧ Same h h' (fun _ => False) := by
  refine fspec_cwf hT V5.v47 rfl ?_
  obtain ⟨_, h1, F1, bt, ut, us, rfl, w, _, s1⟩ := survey_spec hT V H V2 V3 V4 m R
  have r4 : h1.rd bt 4 = some (.bool t.busy) := rd_of w.blk
  simp only [af49, cwf_seq, cwf_ops, andThen_normal, owf_nil, o_p, owf_call, bo_eq, optQ_some, pop, popQ, ev, evs, putA, putArgs, look_put, ite_true, ite_false, Nat.reduceEqDiff]
  refine ⟨_, _, F1, ?_⟩
  simp only [cwf_seq, cwf_ops, cwf_ret, andThen_normal, fnQ_ret, owf_nil, o_p, o_r, o_on, behind_eq, bo_eq, optQ_some, pop, popQ, rop_load1, ldV_ptr, ev, putA, look_put, isB_true, resAll, resA, mkRes1, cond_true, ite_true, ite_false, Nat.reduceEqDiff, Nat.zero_add, Option.some.injEq, exists_eq_left', true_and, List.getElem?_cons_zero, List.getElem?_cons_succ, r4]
  rw [tail_marks h h1 s1.marks]
  exact s1

omit V in
theorem children_spec (V5 : HasV5 tab) (h : Heap) (p : Option Addr) (a : Int) : FSpec P 130 [.pointer p, I a] h fun v h' => v = .func (.func 184) #[] #[.pointer (some ⟨h.next, 0, none⟩), .pointer (some ⟨h.next + 1, 0, none⟩)] ∧ h'.rd h.next 0 = some (.pointer p) ∧ h'.rd (h.next + 1) 0 = some (I a) ∧ h'.next = h.next + 2 ∧ Same h h' (fun _ => False) := by
  refine fspec_cwf hT V5.v109 rfl ?_
  have s1 : Same h (h.new ⟨[.pointer p], 1, 1, true, false⟩) (fun _ => False) := Same.new
  have g1 : (h.new ⟨[.pointer p], 1, 1, true, false⟩).blks.get h.next = some ⟨[.pointer p], 1, 1, true, false⟩ := by rw [new_get, if_pos rfl]
  have x1 : (h.new ⟨[.pointer p], 1, 1, true, false⟩).next = h.next + 1 := rfl
  simp only [af130, cwf_seq, cwf_ops, cwf_ret, andThen_normal, fnQ_ret, owf_nil, o_p, o_e, behind_eq, bo_eq, optQ_some, opt2_some, pop, popQ, ev, evs, putA, putArgs, look_put, resAll, resA, mkRes1, eop_box, scalar_int, scalar_ptr, ite_true, ite_false, Nat.reduceEqDiff, Nat.zero_add, Option.some.injEq, exists_eq_left', box1]
  generalize h.new ⟨[.pointer p], 1, 1, true, false⟩ = h1 at s1 g1 x1
  have s2 : Same h1 (h1.new ⟨[I a], 1, 1, true, false⟩) (fun _ => False) := Same.new
  have g2 : (h1.new ⟨[I a], 1, 1, true, false⟩).blks.get h1.next = some ⟨[I a], 1, 1, true, false⟩ := by rw [new_get, if_pos rfl]
  have x2 : (h1.new ⟨[I a], 1, 1, true, false⟩).next = h1.next + 1 := rfl
  generalize h1.new ⟨[I a], 1, 1, true, false⟩ = h2 at s2 g2 x2
  have sf := s1.trans s2 (fun _ _ x => x)
  rw [tail_marks h h2 sf.marks]
  rw [x1] at g2
  refine ⟨by rw [x1], ?_, ?_, by omega, sf⟩
  · rw [rd_of (by rw [s2.get h.next (by omega) (fun x => x)]; exact g1)]; rfl
  · rw [rd_of g2]; rfl

/-- one child behind the other -/
theorem children1_spec (H : Has tab) (V5 : HasV5 tab) {yv : Value} {bm : Nat} {um : Option Nat} {C : List Int} {z c o r : Int} {a d pm pa : Nat} {cs : List Tr} (hd : d = cs.length) (hC : C.length ≤ 65536) (ha : a + 4 + 2 * d < 1000000) (h0 : at0 C a = d) (hcs : ∀ i (h : i < cs.length), at0 C (a + 4 + cs.length + i) = cs[i].word) (hoks : oks C cs) (yf : notFn yv [16]) (yg : notFn yv [40]) (J : Nat → Heap → Prop)
    (Jm : ∀ i h, J i h → MemAt h bm um C z c o r ∧ h.rd pm 0 = some (.pointer (some ⟨bm, 0, none⟩)) ∧ h.rd pa 0 = some (I a)) (Js : ∀ i h h', J i h → Same h h' (fun _ => False) → J i h') (Jk : ∀ i h h', J i h → J (i + 1) h' → h'.marks = h.marks)
    (Jy : ∀ i (hi : i < cs.length) h, J i h → callV P yv [I i, I cs[i].word] h fun v h' => v = .bool true ∧ J (i + 1) h') {h : Heap} (j0 : J 0 h) :
    FSpec P 184 [yv, .pointer (some ⟨pm, 0, none⟩), .pointer (some ⟨pa, 0, none⟩)] h fun _ h' => J d h' := by
  refine fspec_cwf hT V5.v125 rfl ?_
  obtain ⟨m0, rm0, ra0⟩ := Jm 0 h j0
  have wz : wrapF .i64 ((a : Int) + 0) = (a : Int) := by rw [wrapI] <;> omega
  have F0 : Fact P 14 [.pointer (some ⟨bm, 0, none⟩), I a] h (I d) h := by
    obtain ⟨_, _, F, e, rfl⟩ := at_spec hT V m0 a (by omega)
    rw [h0] at e; subst e; exact F
  simp only [af184, cwf_seq, cwf_ops, o_p, o_r, owf_call, bo_eq, optQ_some, pop, popQ, rop_load1, ldV_ptr, ev, evs, putA, putArgs, look_put, abinF_eq, abin, decide_true, cond_true, ite_true, ite_false, Nat.reduceEqDiff, Nat.reduceAdd, Nat.zero_add, rm0, ra0, wz]
  refine ⟨_, _, F0, ?_⟩
  simp only [cwf_seq, cwf_ops, cwf_block, cwf_loop, andThen_normal, owf_nil, o_p, behind_eq, bo_eq, optQ_some, pop, popQ, ev, putA, look_put, ite_true, ite_false, Nat.reduceEqDiff]
  refine cw_loop (fun k ts h' => ∃ i : Nat, k = d - i ∧ i ≤ d ∧ look ts 0 = yv ∧ look ts 1 = .pointer (some ⟨pm, 0, none⟩) ∧ look ts 2 = .pointer (some ⟨pa, 0, none⟩) ∧ look ts 4 = I d ∧ look ts 10 = I d ∧ look ts 11 = I i ∧ J i h' ∧ h'.marks = h.marks) ?_ (n := d) ⟨0, rfl, Nat.zero_le _, by simp only [look_put, ite_true, ite_false, Nat.reduceEqDiff], by simp only [look_put, ite_true, ite_false, Nat.reduceEqDiff], by simp only [look_put, ite_true, ite_false, Nat.reduceEqDiff], by simp only [look_put, ite_true, ite_false, Nat.reduceEqDiff], by simp only [look_put, ite_true, ite_false, Nat.reduceEqDiff], by simp only [look_put, Int.cast_ofNat_Int, ite_true, ite_false, Nat.reduceEqDiff] <;> rfl, j0, rfl⟩
  rintro k ts h' ⟨i, rfl, i2, t0, t1, t2, t4, t10, t11, ji, hmk⟩
  obtain ⟨mm, rm, ra⟩ := Jm i h' ji
  refine cwf_cw ?_
  by_cases hi : i < d
  · have ci : ((i : Int) < d) = True := by simp [hi]
    have wi : wrapF .i64 ((i : Int) + 1) = ((i + 1 : Nat) : Int) := by rw [wrapI] <;> omega
    have hic : i < cs.length := by omega
    obtain ⟨_, h2, F1, rfl, s1⟩ := childat_spec hT V h' a d i (by omega) (by omega) (by omega)
    have j1 := Js i h' h2 ji s1
    obtain ⟨mm2, rm2, ra2⟩ := Jm i h2 j1
    obtain ⟨kk, k1, k2, hk⟩ := word_parts cs[i]
    obtain ⟨a1, a2⟩ := ok_adr (oks_mem hoks i hic) hC
    have hcell : at0 C (a + 4 + d + i) = cs[i].word := by
      have := hcs i hic
      rwa [← hd] at this
    have F2 := logic_spec hT V H mm2 (a + 4 + d + i) (by omega) a1 a2 k1 (by omega) (hcell.trans hk)
    rw [← hk] at F2
    obtain ⟨_, h2, F2, rfl, rfl⟩ := F2
    obtain ⟨v3, h3, CF, hcf, gv, rfl, j3⟩ := callV_cf (Jy i hic h2 j1)
    have hmk3 := Jk i h2 h3 j1 j3
    obtain ⟨CG, hcg, g118, g76, gy⟩ : ∃ CG : CallF, CfOk P CG ∧ CG (.fn 16) [I a, I d, I i] h' = some (I ((a + 4 + d + i : Nat) : Int), h2) ∧ CG (.fn 40) [.pointer (some ⟨bm, 0, none⟩), I ((a + 4 + d + i : Nat) : Int)] h2 = some (I cs[i].word, h2) ∧ callW CG yv [I i, I cs[i].word] h2 = some (.bool true, h3) :=
      ⟨cfOf 16 _ h' _ h2 (cfOf 40 _ h2 _ h2 CF), cfOf_ok F1 (cfOf_ok F2 hcf), cfOf_eq, by rw [cfOf_ne (by decide)]; exact cfOf_eq, by rw [callW_cfOf yf, callW_cfOf yg]; exact gv⟩
    simp only [cwf_seq, cwf_ops, c_true, cwf_skip, cwf_block, andThen_normal, owf_nil, o_p, bo_eq, optQ_some, pop, popQ, ev, putA, look_put, isB_true, abinF_eq, abin, decide_true, cond_true, ite_true, ite_false, Nat.reduceEqDiff, t10, t11, ci]
    let Jw : Nat → Heap → Prop := fun i k => i ≤ 1 → k.rd pm 0 = some (.pointer (some ⟨bm, 0, none⟩)) ∧ k.rd pa 0 = some (I a)
    have w0 : Jw 0 h' := fun _ => ⟨rm, ra⟩
    have w1 : Jw (0 + 1) h2 := fun _ => ⟨rm2, ra2⟩
    have w2 : Jw (0 + 1 + 1) h2 := fun h => by omega
    have w3 : Jw (0 + 1 + 1 + 1) h3 := fun h => by omega
    have l1 : ∀ j k, 0 ≤ j → j ≤ 1 → Jw j k → k.rd pm 0 = some (.pointer (some ⟨bm, 0, none⟩)) := fun j k _ hj q => (q hj).1
    have l2 : ∀ j k, 0 ≤ j → j ≤ 0 → Jw j k → k.rd pa 0 = some (I a) := fun j k _ hj q => (q (by omega)).2
    have vp : veq (.pointer (some ⟨bm, 0, none⟩)) (.pointer (some ⟨bm, 0, none⟩)) = true := by simp [veq, veq1]
    clear_value Jw
    refine cwf_win Jw CG hcg w0 ?_
    simp only [optQ_some, opt2_some, pop, popQ, rop_load1, ldV_ptr, ev, evs, putA, look_put, ite_true, ite_false, Nat.reduceEqDiff, Nat.reduceAdd, Nat.zero_add, true_and, w_p, w_r, w_call, bw_eq, bwr_eq, bw2_eq, t0, t1, t2, t4, rm, ra, veq_int, vp, g118]
    refine ⟨l1, l2, w1, ?_⟩
    simp only [opt2_some, ev, evs, putA, look_put, ite_true, ite_false, Nat.reduceEqDiff, Nat.reduceAdd, w_callv, bw2_eq, g76]
    refine ⟨w2, ?_⟩
    simp only [cwf_ops, c_false, cwf_skip, andThen_normal, blockQ_normal, roundQ_normal, owf_nil, o_p, bo_eq, optQ_some, opt2_some, pop, popQ, ev, putA, look_put, isB_false, abinF_eq, abin, decide_true, cond_true, ite_true, ite_false, Bool.not_true, Bool.not_false, Nat.reduceEqDiff, true_and, w_nil, w_p, bw_eq, bw2_eq, t0, t1, t2, t4, t10, t11, gy]
    refine ⟨w3, ?_⟩
    simp only [wi]
    exact ⟨d - (i + 1), by omega, i + 1, rfl, by omega, rfl, j3, by rw [hmk3, s1.marks, hmk]⟩
  · have hid : i = d := by omega
    have ci : ((i : Int) < d) = False := by simp; omega
    simp only [cwf_seq, cwf_ops, c_false, cwf_exit, andThen_normal, andThen_exit, blockQ_exit, roundQ_exit, fnQ_normal, owf_nil, o_p, bo_eq, optQ_some, pop, popQ, ev, putA, look_put, isB_false, abinF_eq, abin, resAll, decide_true, decide_false, cond_true, ite_true, Bool.not_false, Option.some.injEq, exists_eq_left', t10, t11, ci]
    rw [tail_marks h h' hmk]
    rw [hid] at ji
    exact ji
end
end
end Go.Proofs.YtpeihcpclcibgaaGreat.Ai
/- The Leaves below a word, one by one, each handed to whoever asks. -/
namespace Go.Proofs.YtpeihcpclcibgaaGreat.Ai
open Go.Proofs.YtpeihcpclcibgaaGreat
noncomputable section
open Go.RowKit

/-- one who is handed Leaves: what he keeps of those that he got; which blocks are his -/
structure Client (P : Program) (bm : Nat) (um : Option Nat) (C : List Int) (z c o r : Int) (yv : Value) (Iv : List Pr → (Nat → Prop) → Heap → Prop) : Prop where
  lt : ∀ acc F h, Iv acc F h → ∀ j, F j → j < h.next
  frame : ∀ acc F h h' S, Iv acc F h → SameB h h' S → (∀ j, F j → ¬ S j) → Iv acc F h'
  mem : ∀ acc F h, Iv acc F h → ∀ j, F j → j ≠ bm ∧ um ≠ some j
  call : ∀ acc F h (p : Pr), acc.length < 100000 → Iv acc F h → MemAt h bm um C z c o r → callV P yv [I p.1, I p.2] h fun v h' => v = .bool true ∧ ∃ F', Iv (acc ++ [p]) F' h' ∧ Same h h' F ∧ ∀ j, F' j → F j ∨ h.next ≤ j
  fn : isFunc yv = true
  veq : veq yv yv = true
  y118 : notFn yv [16]
  y76 : notFn yv [40]
  y58 : notFn yv [14]

theorem contents_take (cs : List Tr) {i : Nat} (hi : i < cs.length) : (contents (cs.take i)).length + cs[i].content.length ≤ (contents cs).length := by
  have e : cs = cs.take i ++ (cs[i] :: cs.drop (i + 1)) := by simp
  have e2 : (contents cs).length = (contents (cs.take i ++ (cs[i] :: cs.drop (i + 1)))).length := by rw [← e]
  rw [e2, contents_app, List.length_append]
  simp only [contents, List.length_append]; omega

section
variable {P : Program} {tab : Nat → Option AFunc} (hT : TabOk P tab) (V : HasV tab)
include hT V

theorem inside_spec (H : Has tab) (V5 : HasV5 tab) (h : Heap) (p : Value) (a k : Nat) (a1 : 1 ≤ a) (a2 : a ≤ 65536) (k1 : 1 ≤ k) (k2 : k ≤ 3) : FSpec P 129 [p, I ((a : Int) * 8 + k)] h fun v h' => v = I ((a : Int) * 8 + k) ∧ h' = h := by
  refine fspec_cwf hT V5.v107 rfl ?_
  obtain ⟨_, h1, F, rfl, rfl⟩ := kind_spec hT V H h a k a1 a2 k1 (by omega)
  have c4 : ((k : Int) == 4) = false := by rw [beq_eq_false_iff_ne]; omega
  simp only [af129, cwf_seq, cwf_ops, andThen_normal, owf_nil, o_p, owf_call, bo_eq, optQ_some, pop, popQ, ev, evs, putA, putArgs, look_put, ite_true, ite_false, Nat.reduceEqDiff, Nat.zero_add]
  refine ⟨_, _, F, ?_⟩
  simp only [cwf_seq, cwf_ops, cwf_ret, c_false, cwf_skip, andThen_normal, fnQ_ret, owf_nil, o_p, behind_eq, bo_eq, optQ_some, pop, popQ, ev, putA, look_put, isB_false, abinF_eq, abin, resAll, resA, mkRes1, decide_true, cond_true, ite_true, ite_false, Bool.not_false, Nat.reduceEqDiff, Option.some.injEq, exists_eq_left', and_true, c4]

/-- of a tree -/
def LeafP (P : Program) (bm : Nat) (um : Option Nat) (C : List Int) (z c o r : Int) (yv : Value) (Iv : List Pr → (Nat → Prop) → Heap → Prop) (t : Tr) : Prop :=
  ∀ (h : Heap) (acc : List Pr) (F : Nat → Prop), Iv acc F h → MemAt h bm um C z c o r → t.ok C → acc.length + t.content.length ≤ 100000 → FSpec P 78 [.pointer (some ⟨bm, 0, none⟩), I t.word, yv] h fun v h' => v = .bool true ∧ (∃ F', Iv (acc ++ t.content) F' h' ∧ ∀ j, F' j → F j ∨ h.next ≤ j) ∧ Same h h' F

theorem leaves_spec (H : Has tab) (V5 : HasV5 tab) {bm : Nat} {um : Option Nat} {C : List Int} {z c o r : Int} {yv : Value} {Iv : List Pr → (Nat → Prop) → Heap → Prop} (cl : Client P bm um C z c o r yv Iv) (hC : C.length ≤ 65536) : ∀ t : Tr, LeafP P bm um C z c o r yv Iv t := by
  intro t
  induction t using Tr.ind with
  | e a =>
    intro h acc F iv m hok hacc
    refine fspec_cwf hT V5.v75 rfl ?_
    have q1 : 1 ≤ a := hok.1
    have q2 : a ≤ C.length := hok.2
    have hFl := cl.lt acc F h iv
    have ew : (Tr.empty a).word = (a : Int) * 8 + ((1 : Nat) : Int) := rfl
    have hys := isFunc_scalar cl.fn
    -- what is its own
    have s1 : Same h (h.new ⟨[.pointer (some ⟨bm, 0, none⟩)], 1, 1, true, false⟩) (fun _ => False) := Same.new
    have g1 : (h.new ⟨[.pointer (some ⟨bm, 0, none⟩)], 1, 1, true, false⟩).blks.get h.next = some ⟨[.pointer (some ⟨bm, 0, none⟩)], 1, 1, true, false⟩ := by rw [new_get, if_pos rfl]
    have x1 : (h.new ⟨[.pointer (some ⟨bm, 0, none⟩)], 1, 1, true, false⟩).next = h.next + 1 := rfl
    generalize hh1 : h.new ⟨[.pointer (some ⟨bm, 0, none⟩)], 1, 1, true, false⟩ = h1 at s1 g1 x1
    have s2 : Same h1 (h1.new ⟨[yv], 1, 1, true, false⟩) (fun _ => False) := Same.new
    have g2 : (h1.new ⟨[yv], 1, 1, true, false⟩).blks.get h1.next = some ⟨[yv], 1, 1, true, false⟩ := by rw [new_get, if_pos rfl]
    have x2 : (h1.new ⟨[yv], 1, 1, true, false⟩).next = h1.next + 1 := rfl
    generalize hh2 : h1.new ⟨[yv], 1, 1, true, false⟩ = h2 at s2 g2 x2
    have s3 : Same h2 (h2.new ⟨[.bool false], 1, 1, true, false⟩) (fun _ => False) := Same.new
    have g3 : (h2.new ⟨[.bool false], 1, 1, true, false⟩).blks.get h2.next = some ⟨[.bool false], 1, 1, true, false⟩ := by rw [new_get, if_pos rfl]
    have x3 : (h2.new ⟨[.bool false], 1, 1, true, false⟩).next = h2.next + 1 := rfl
    generalize hh3 : h2.new ⟨[.bool false], 1, 1, true, false⟩ = h3 at s3 g3 x3
    have s03 : Same h h3 (fun _ => False) := (s1.trans s2 (fun _ _ x => x)).trans s3 (fun _ _ x => x)
    have k1 : h3.blks.get h.next = some ⟨[.pointer (some ⟨bm, 0, none⟩)], 1, 1, true, false⟩ := by rw [s3.get h.next (by omega) (fun x => x), s2.get h.next (by omega) (fun x => x)]; exact g1
    have k2 : h3.blks.get (h.next + 1) = some ⟨[yv], 1, 1, true, false⟩ := by rw [s3.get (h.next + 1) (by omega) (fun x => x), ← x1]; exact g2
    have k3 : h3.blks.get (h.next + 2) = some ⟨[.bool false], 1, 1, true, false⟩ := by rw [show h.next + 2 = h2.next by omega]; exact g3
    have r1 : h3.rd h.next 0 = some (.pointer (some ⟨bm, 0, none⟩)) := rd_of k1
    obtain ⟨_, h3, F107, rfl, rfl⟩ := inside_spec hT V H V5 h3 (.pointer (some ⟨bm, 0, none⟩)) a 1 q1 (by omega) (by omega) (by omega)
    obtain ⟨_, h3, F91, rfl, rfl⟩ := refat_spec hT V H h3 a 1 q1 (by omega) (by omega) (by omega)
    obtain ⟨_, h3, F108, rfl, rfl⟩ := kind_spec hT V H h3 a 1 q1 (by omega) (by omega) (by omega)
    have c1n : ((1 : Int) == 2) = false := rfl
    have c1m : ((1 : Int) == 3) = false := rfl
    rw [show h.next + 2 = h2.next by omega] at k3
    have w6 : h3.wrs h2.next 0 [.bool true] = some (h3.setB h2.next ⟨[.bool true], 1, 1, true, false⟩) := wrs1_of k3 rfl (by simp) rfl
    have s6 : Same h3 (h3.setB h2.next ⟨[.bool true], 1, 1, true, false⟩) (fun j => j = h2.next) := Same.setB rfl
    have g7 : (h3.setB h2.next ⟨[.bool true], 1, 1, true, false⟩).blks.get h2.next = some ⟨[.bool true], 1, 1, true, false⟩ := by rw [setB_get, if_pos rfl]
    generalize h3.setB h2.next ⟨[.bool true], 1, 1, true, false⟩ = Z at w6 s6 g7
    have r6 : Z.rd h2.next 0 = some (.bool true) := rd_of g7
    rw [ew]
    simp only [af78, cwf_seq, cwf_ops, andThen_normal, owf_nil, o_p, o_r, o_e, owf_call, behind_eq, bo_eq, optQ_some, opt2_some, pop, popQ, rop_load1, ldV_ptr, ev, evs, putA, putArgs, look_put, eop_box, List.length_cons, List.length_nil, Int.cast_ofNat_Int, scalar_ptr, ite_true, ite_false, Nat.reduceEqDiff, Nat.reduceAdd, Nat.zero_add, eop_alloc, box1, hh1, hys, hh2, List.length_cons, List.length_nil, hh3, r1]
    refine ⟨_, _, F107, ?_⟩
    simp only [cwf_seq, cwf_ops, andThen_normal, owf_nil, o_p, owf_call, behind_eq, bo_eq, optQ_some, pop, popQ, ev, evs, putA, look_put, Int.cast_ofNat_Int, ite_true, ite_false, Nat.reduceEqDiff]
    refine ⟨_, _, F91, ?_⟩
    simp only [cwf_seq, cwf_ops, andThen_normal, owf_nil, o_p, owf_call, behind_eq, bo_eq, optQ_some, pop, popQ, ev, evs, putA, look_put, ite_true, ite_false, Nat.reduceEqDiff]
    refine ⟨_, _, F108, ?_⟩
    simp only [cwf_seq, cwf_ops, cwf_ret, c_false, cwf_skip, cwf_block, andThen_normal, blockQ_normal, fnQ_ret, owf_nil, o_p, o_e, behind_eq, bo_eq, optQ_some, opt2_some, pop, popQ, ev, putA, look_put, isB_false, abinF_eq, abin, resAll, resA, mkRes1, eop_store1, st1, Int.cast_ofNat_Int, scalar_bool, decide_true, cond_true, ite_true, ite_false, Bool.not_false, Nat.reduceEqDiff, Option.some.injEq, exists_eq_left', true_and, c1n, c1m, w6, r6]
    have sf : Same h Z (fun j => j = h2.next) := (s03.mono (T := fun j => j = h2.next) (fun _ x => x.elim)).trans s6 (fun _ _ x => x)
    have sf' : Same h Z (fun _ => False) := s03.trans s6 (fun j hj e => by omega)
    rw [tail_marks h Z sf.marks]
    have e0 : acc ++ (Tr.empty a).content = acc := List.append_nil _
    rw [e0]
    exact ⟨⟨F, cl.frame _ _ _ _ _ iv sf'.toB (fun _ _ x => x), fun j hj => .inl hj⟩, sf'.mono (fun _ x => x.elim)⟩
  | l a k v =>
    intro h acc F iv m hok hacc
    refine fspec_cwf hT V5.v75 rfl ?_
    obtain ⟨q1, q2, q3, q4⟩ := hok
    have hbm := m.lt
    have huml := fun y hy => (m.use y hy).2.2.1
    have hFl := cl.lt acc F h iv
    have hFm := cl.mem acc F h iv
    have ew : (Tr.leaf a k v).word = (a : Int) * 8 + ((2 : Nat) : Int) := rfl
    have hys := isFunc_scalar cl.fn
    -- what is its own
    have s1 : Same h (h.new ⟨[.pointer (some ⟨bm, 0, none⟩)], 1, 1, true, false⟩) (fun _ => False) := Same.new
    have g1 : (h.new ⟨[.pointer (some ⟨bm, 0, none⟩)], 1, 1, true, false⟩).blks.get h.next = some ⟨[.pointer (some ⟨bm, 0, none⟩)], 1, 1, true, false⟩ := by rw [new_get, if_pos rfl]
    have x1 : (h.new ⟨[.pointer (some ⟨bm, 0, none⟩)], 1, 1, true, false⟩).next = h.next + 1 := rfl
    generalize hh1 : h.new ⟨[.pointer (some ⟨bm, 0, none⟩)], 1, 1, true, false⟩ = h1 at s1 g1 x1
    have s2 : Same h1 (h1.new ⟨[yv], 1, 1, true, false⟩) (fun _ => False) := Same.new
    have g2 : (h1.new ⟨[yv], 1, 1, true, false⟩).blks.get h1.next = some ⟨[yv], 1, 1, true, false⟩ := by rw [new_get, if_pos rfl]
    have x2 : (h1.new ⟨[yv], 1, 1, true, false⟩).next = h1.next + 1 := rfl
    generalize hh2 : h1.new ⟨[yv], 1, 1, true, false⟩ = h2 at s2 g2 x2
    have s3 : Same h2 (h2.new ⟨[.bool false], 1, 1, true, false⟩) (fun _ => False) := Same.new
    have g3 : (h2.new ⟨[.bool false], 1, 1, true, false⟩).blks.get h2.next = some ⟨[.bool false], 1, 1, true, false⟩ := by rw [new_get, if_pos rfl]
    have x3 : (h2.new ⟨[.bool false], 1, 1, true, false⟩).next = h2.next + 1 := rfl
    generalize hh3 : h2.new ⟨[.bool false], 1, 1, true, false⟩ = h3 at s3 g3 x3
    have s03 : Same h h3 (fun _ => False) := (s1.trans s2 (fun _ _ x => x)).trans s3 (fun _ _ x => x)
    have k1 : h3.blks.get h.next = some ⟨[.pointer (some ⟨bm, 0, none⟩)], 1, 1, true, false⟩ := by rw [s3.get h.next (by omega) (fun x => x), s2.get h.next (by omega) (fun x => x)]; exact g1
    have k2 : h3.blks.get (h.next + 1) = some ⟨[yv], 1, 1, true, false⟩ := by rw [s3.get (h.next + 1) (by omega) (fun x => x), ← x1]; exact g2
    have k3 : h3.blks.get (h.next + 2) = some ⟨[.bool false], 1, 1, true, false⟩ := by rw [show h.next + 2 = h2.next by omega]; exact g3
    have r1 : h3.rd h.next 0 = some (.pointer (some ⟨bm, 0, none⟩)) := rd_of k1
    have r2 : h3.rd h1.next 0 = some yv := by rw [x1, rd_of k2]; rfl
    obtain ⟨_, h3, F107, rfl, rfl⟩ := inside_spec hT V H V5 h3 (.pointer (some ⟨bm, 0, none⟩)) a 2 q1 (by omega) (by omega) (by omega)
    obtain ⟨_, h3, F91, rfl, rfl⟩ := refat_spec hT V H h3 a 2 q1 (by omega) (by omega) (by omega)
    obtain ⟨_, h3, F108, rfl, rfl⟩ := kind_spec hT V H h3 a 2 q1 (by omega) (by omega) (by omega)
    have m3 := m.same s03 (fun x => x) (fun _ _ x => x)
    have Fk : Fact P 14 [.pointer (some ⟨bm, 0, none⟩), I a] h3 (I k) h3 := by
      obtain ⟨_, _, F, e, rfl⟩ := at_spec hT V m3 a (by omega)
      rw [q3] at e; subst e; exact F
    have Fv : Fact P 14 [.pointer (some ⟨bm, 0, none⟩), I ((a + 1 : Nat) : Int)] h3 (I v) h3 := by
      obtain ⟨_, _, F, e, rfl⟩ := at_spec hT V m3 (a + 1) (by omega)
      rw [q4] at e; subst e; exact F
    have iv3 : Iv acc F h3 := cl.frame _ _ _ _ _ iv s03.toB (fun _ _ x => x)
    obtain ⟨vy, h4, CF, hcf, gv, rfl, F', iv4, s4, hF'⟩ := callV_cf (cl.call acc F h3 (k, v) (by have : (Tr.leaf a k v).content.length = 1 := rfl
                                                                                                 omega) iv3 m3)
    have x4 := s4.next
    have nF : ∀ j, h.next ≤ j → ¬ F j := fun j hj hf => by have := hFl j hf; omega
    have c2y : ((2 : Int) == 2) = true := rfl
    have wz : wrapF .i64 ((a : Int) + 0) = (a : Int) := by rw [wrapI] <;> omega
    have wa : wrapF .i64 ((a : Int) + 1) = ((a + 1 : Nat) : Int) := by rw [wrapI] <;> omega
    rw [show h.next + 2 = h2.next by omega] at k3
    have k4 : h4.blks.get h2.next = some ⟨[.bool false], 1, 1, true, false⟩ := by rw [s4.get h2.next (by omega) (nF _ (by omega))]; exact k3
    have w6 : h4.wrs h2.next 0 [.bool true] = some (h4.setB h2.next ⟨[.bool true], 1, 1, true, false⟩) := wrs1_of k4 rfl (by simp) rfl
    have s6 : Same h4 (h4.setB h2.next ⟨[.bool true], 1, 1, true, false⟩) (fun j => j = h2.next) := Same.setB rfl
    have g7 : (h4.setB h2.next ⟨[.bool true], 1, 1, true, false⟩).blks.get h2.next = some ⟨[.bool true], 1, 1, true, false⟩ := by rw [setB_get, if_pos rfl]
    generalize h4.setB h2.next ⟨[.bool true], 1, 1, true, false⟩ = Z at w6 s6 g7
    have x6 := s6.next
    have r6 : Z.rd h2.next 0 = some (.bool true) := rd_of g7
    obtain ⟨CG, hcg, gk, gvv, gy⟩ : ∃ CG : CallF, CfOk P CG ∧ CG (.fn 14) [.pointer (some ⟨bm, 0, none⟩), I a] h3 = some (I k, h3) ∧ CG (.fn 14) [.pointer (some ⟨bm, 0, none⟩), I ((a + 1 : Nat) : Int)] h3 = some (I v, h3) ∧ callW CG yv [I k, I v] h3 = some (.bool true, h4) := by
      refine ⟨cfOf 14 _ h3 _ h3 (cfOf 14 _ h3 _ h3 CF), cfOf_ok Fk (cfOf_ok Fv hcf), cfOf_eq, ?_, by rw [callW_cfOf cl.y58, callW_cfOf cl.y58]; exact gv⟩
      unfold cfOf
      rw [if_neg (by
        rintro ⟨_, e, _⟩
        simp only [List.cons.injEq, Value.int.injEq, true_and, and_true] at e
        omega), if_pos ⟨rfl, rfl, rfl⟩]
    rw [ew]
    simp only [af78, cwf_seq, cwf_ops, andThen_normal, owf_nil, o_p, o_r, o_e, owf_call, behind_eq, bo_eq, optQ_some, opt2_some, pop, popQ, rop_load1, ldV_ptr, ev, evs, putA, putArgs, look_put, eop_box, List.length_cons, List.length_nil, Int.cast_ofNat_Int, scalar_ptr, ite_true, ite_false, Nat.reduceEqDiff, Nat.reduceAdd, Nat.zero_add, eop_alloc, box1, hh1, hys, hh2, List.length_cons, List.length_nil, hh3, r1]
    refine ⟨_, _, F107, ?_⟩
    simp only [cwf_seq, cwf_ops, andThen_normal, owf_nil, o_p, owf_call, behind_eq, bo_eq, optQ_some, pop, popQ, ev, evs, putA, look_put, Int.cast_ofNat_Int, ite_true, ite_false, Nat.reduceEqDiff]
    refine ⟨_, _, F91, ?_⟩
    simp only [cwf_seq, cwf_ops, andThen_normal, owf_nil, o_p, owf_call, behind_eq, bo_eq, optQ_some, pop, popQ, ev, evs, putA, look_put, ite_true, ite_false, Nat.reduceEqDiff]
    refine ⟨_, _, F108, ?_⟩
    simp only [cwf_seq, cwf_ops, c_true, cwf_block, andThen_normal, owf_nil, o_p, behind_eq, bo_eq, optQ_some, pop, popQ, ev, putA, look_put, isB_true, abinF_eq, abin, Int.cast_ofNat_Int, decide_true, cond_true, ite_true, ite_false, Nat.reduceEqDiff, c2y]
    let Jw : Nat → Heap → Prop := fun i q => i ≤ 2 → q.rd h1.next 0 = some yv ∧ q.rd h.next 0 = some (.pointer (some ⟨bm, 0, none⟩))
    have w0 : Jw 0 h3 := fun _ => ⟨r2, r1⟩
    have w1 : Jw (0 + 1) h3 := fun _ => ⟨r2, r1⟩
    have w2 : Jw (0 + 1 + 1) h3 := fun _ => ⟨r2, r1⟩
    have w3 : Jw (0 + 1 + 1 + 1) h4 := fun h => by omega
    have w4 : Jw (0 + 1 + 1 + 1 + 1) Z := fun h => by omega
    have l1 : ∀ j q, 0 ≤ j → j ≤ 2 → Jw j q → q.rd h1.next 0 = some yv := fun j q _ hj x => (x hj).1
    have l2 : ∀ j q, 0 ≤ j → j ≤ 0 → Jw j q → q.rd h.next 0 = some (.pointer (some ⟨bm, 0, none⟩)) := fun j q _ hj x => (x (by omega)).2
    have l3 : ∀ j q, 0 ≤ j → j ≤ 1 → Jw j q → q.rd h.next 0 = some (.pointer (some ⟨bm, 0, none⟩)) := fun j q _ hj x => (x (by omega)).2
    have vp : veq (.pointer (some ⟨bm, 0, none⟩)) (.pointer (some ⟨bm, 0, none⟩)) = true := by simp [veq, veq1]
    clear_value Jw
    refine cwf_win Jw CG hcg w0 ?_
    simp only [optQ_some, opt2_some, pop, popQ, rop_load1, ldV_ptr, ev, evs, putA, look_put, abinF_eq, abin, decide_true, cond_true, ite_true, ite_false, Nat.reduceEqDiff, Nat.reduceAdd, Nat.zero_add, true_and, w_p, w_r, w_call, bw_eq, bwr_eq, bw2_eq, r1, r2, vp, wz, gk]
    refine ⟨l1, cl.veq, l2, w1, l3, ?_⟩
    simp only [opt2_some, ev, evs, putA, look_put, ite_true, ite_false, Nat.reduceEqDiff, Nat.reduceAdd, w_callv, bw2_eq, wa, gvv]
    refine ⟨w2, ?_⟩
    simp only [opt2_some, ev, putA, look_put, eop_store1, st1, scalar_bool, ite_true, ite_false, Nat.reduceEqDiff, Nat.reduceAdd, w_e, bw2_eq, gy]
    refine ⟨w3, ?_⟩
    simp only [cwf_ret, andThen_normal, andThen_ret, blockQ_ret, fnQ_ret, opt2_some, putA, look_put, resAll, resA, ite_true, ite_false, Nat.reduceEqDiff, w_nil, bw2_eq, w6]
    refine ⟨w4, ?_⟩
    simp only [mkRes1, Option.some.injEq, exists_eq_left', true_and, r6]
    have sf : Same h Z F := ((s03.mono (T := F) (fun _ x => x.elim)).trans s4 (fun _ _ x => x)).trans s6 (fun j hj e => by omega)
    rw [tail_marks h Z sf.marks]
    refine ⟨⟨F', ?_, fun j hj => (hF' j hj).imp_right (fun e => by omega)⟩, sf⟩
    exact cl.frame _ _ _ _ _ iv4 s6.toB (fun j hj e => (hF' j hj).elim (nF j (by omega)) (fun e2 => by omega))
  | i a sz sh ch sm ks cs ih =>
    intro h acc F iv m hok hacc
    refine fspec_cwf hT V5.v75 rfl ?_
    obtain ⟨⟨q1, q2, q3, q4⟩, ⟨p0, p1, p2, p3, p4⟩, hsh, hsz, hks, hcs, hoks⟩ := hok
    have hbm := m.lt
    have huml := fun y hy => (m.use y hy).2.2.1
    have hFl := cl.lt acc F h iv
    have hFm := cl.mem acc F h iv
    have ew : (Tr.inner a sz sh ch sm ks cs).word = (a : Int) * 8 + ((3 : Nat) : Int) := rfl
    have hys := isFunc_scalar cl.fn
    -- what is its own
    have s1 : Same h (h.new ⟨[.pointer (some ⟨bm, 0, none⟩)], 1, 1, true, false⟩) (fun _ => False) := Same.new
    have g1 : (h.new ⟨[.pointer (some ⟨bm, 0, none⟩)], 1, 1, true, false⟩).blks.get h.next = some ⟨[.pointer (some ⟨bm, 0, none⟩)], 1, 1, true, false⟩ := by rw [new_get, if_pos rfl]
    have x1 : (h.new ⟨[.pointer (some ⟨bm, 0, none⟩)], 1, 1, true, false⟩).next = h.next + 1 := rfl
    generalize hh1 : h.new ⟨[.pointer (some ⟨bm, 0, none⟩)], 1, 1, true, false⟩ = h1 at s1 g1 x1
    have s2 : Same h1 (h1.new ⟨[yv], 1, 1, true, false⟩) (fun _ => False) := Same.new
    have g2 : (h1.new ⟨[yv], 1, 1, true, false⟩).blks.get h1.next = some ⟨[yv], 1, 1, true, false⟩ := by rw [new_get, if_pos rfl]
    have x2 : (h1.new ⟨[yv], 1, 1, true, false⟩).next = h1.next + 1 := rfl
    generalize hh2 : h1.new ⟨[yv], 1, 1, true, false⟩ = h2 at s2 g2 x2
    have s3 : Same h2 (h2.new ⟨[.bool false], 1, 1, true, false⟩) (fun _ => False) := Same.new
    have g3 : (h2.new ⟨[.bool false], 1, 1, true, false⟩).blks.get h2.next = some ⟨[.bool false], 1, 1, true, false⟩ := by rw [new_get, if_pos rfl]
    have x3 : (h2.new ⟨[.bool false], 1, 1, true, false⟩).next = h2.next + 1 := rfl
    generalize hh3 : h2.new ⟨[.bool false], 1, 1, true, false⟩ = h3 at s3 g3 x3
    have s03 : Same h h3 (fun _ => False) := (s1.trans s2 (fun _ _ x => x)).trans s3 (fun _ _ x => x)
    have k1 : h3.blks.get h.next = some ⟨[.pointer (some ⟨bm, 0, none⟩)], 1, 1, true, false⟩ := by rw [s3.get h.next (by omega) (fun x => x), s2.get h.next (by omega) (fun x => x)]; exact g1
    have k2 : h3.blks.get (h.next + 1) = some ⟨[yv], 1, 1, true, false⟩ := by rw [s3.get (h.next + 1) (by omega) (fun x => x), ← x1]; exact g2
    have k3 : h3.blks.get (h.next + 2) = some ⟨[.bool false], 1, 1, true, false⟩ := by rw [show h.next + 2 = h2.next by omega]; exact g3
    have r1 : h3.rd h.next 0 = some (.pointer (some ⟨bm, 0, none⟩)) := rd_of k1
    obtain ⟨_, h3, F107, rfl, rfl⟩ := inside_spec hT V H V5 h3 (.pointer (some ⟨bm, 0, none⟩)) a 3 q1 (by omega) (by omega) (by omega)
    obtain ⟨_, h3, F91, rfl, rfl⟩ := refat_spec hT V H h3 a 3 q1 (by omega) (by omega) (by omega)
    obtain ⟨_, h3, F108, rfl, rfl⟩ := kind_spec hT V H h3 a 3 q1 (by omega) (by omega) (by omega)
    obtain ⟨_, h4, F109, rfl, c1, c2, x4, s4⟩ := children_spec hT V5 h3 (some ⟨bm, 0, none⟩) a
    have c3n : ((3 : Int) == 2) = false := rfl
    have c3y : ((3 : Int) == 3) = true := rfl
    rw [ew]
    simp only [af78, cwf_seq, cwf_ops, andThen_normal, owf_nil, o_p, o_r, o_e, owf_call, behind_eq, bo_eq, optQ_some, opt2_some, pop, popQ, rop_load1, ldV_ptr, ev, evs, putA, putArgs, look_put, eop_box, List.length_cons, List.length_nil, Int.cast_ofNat_Int, scalar_ptr, ite_true, ite_false, Nat.reduceEqDiff, Nat.reduceAdd, Nat.zero_add, eop_alloc, box1, hh1, hys, hh2, List.length_cons, List.length_nil, hh3, r1]
    refine ⟨_, _, F107, ?_⟩
    simp only [cwf_seq, cwf_ops, andThen_normal, owf_nil, o_p, owf_call, behind_eq, bo_eq, optQ_some, pop, popQ, ev, evs, putA, look_put, Int.cast_ofNat_Int, ite_true, ite_false, Nat.reduceEqDiff]
    refine ⟨_, _, F91, ?_⟩
    simp only [cwf_seq, cwf_ops, andThen_normal, owf_nil, o_p, owf_call, behind_eq, bo_eq, optQ_some, pop, popQ, ev, evs, putA, look_put, ite_true, ite_false, Nat.reduceEqDiff]
    refine ⟨_, _, F108, ?_⟩
    simp only [cwf_seq, cwf_ops, c_true, c_false, cwf_block, andThen_normal, owf_nil, o_p, o_r, owf_call, behind_eq, bo_eq, optQ_some, pop, popQ, rop_load1, ldV_ptr, ev, evs, putA, look_put, isB_true, isB_false, abinF_eq, abin, Int.cast_ofNat_Int, decide_true, cond_true, ite_true, ite_false, Bool.not_false, Nat.reduceEqDiff, c3n, c3y, r1]
    refine ⟨_, _, F109, ?_⟩
    simp only [cwf_block, andThen_normal, owf_nil, behind_eq, putA, cwf_range]
    refine cw_gen (fun t => look t 3 = .pointer (some ⟨h.next, 0, none⟩) ∧ look t 5 = .pointer (some ⟨h1.next, 0, none⟩) ∧ look t 6 = .pointer (some ⟨h2.next, 0, none⟩) ∧ look t 33 = .func (.func 184) #[] #[.pointer (some ⟨h3.next, 0, none⟩), .pointer (some ⟨h3.next + 1, 0, none⟩)]) ⟨by simp only [look_put, ite_true, ite_false, Nat.reduceEqDiff], by simp only [look_put, ite_true, ite_false, Nat.reduceEqDiff], by simp only [look_put, ite_true, ite_false, Nat.reduceEqDiff], by simp only [look_put, ite_true, ite_false, Nat.reduceEqDiff]⟩ ?_
    rintro tsX ⟨t3, t5, t6, t33⟩
    refine cw_range' t33 (fun k kts kn kps kasg kbody kst kpd => ?_)
    have s4E : SameB h3 (h4.enter k) (fun _ => False) := s4.toB.trans (sameB_enter h4 k) (fun _ _ x => x)
    have xE : (h4.enter k).next = h4.next + 2 := rfl
    have lE : (h4.enter k).loops.get (h4.next + 1) = some k := by rw [enter_loops, if_pos rfl]
    have s0E : SameB h (h4.enter k) (fun _ => False) := s03.toB.trans s4E (fun _ _ x => x)
    have bE : ∀ j, (h4.enter k).blks.get j = h4.blks.get j := fun j => rfl
    have p1 : (h4.enter k).rd h.next 0 = some (.pointer (some ⟨bm, 0, none⟩)) := by
      rw [rd_of (by rw [bE, s4.get h.next (by omega) (fun x => x)]; exact k1)]; rfl
    have p2' : (h4.enter k).blks.get h1.next = some ⟨[yv], 1, 1, true, false⟩ := by rw [bE, s4.get h1.next (by omega) (fun x => x), x1]; exact k2
    have p3' : (h4.enter k).blks.get h2.next = some ⟨[.bool false], 1, 1, true, false⟩ := by rw [bE, s4.get h2.next (by omega) (fun x => x), show h2.next = h.next + 2 by omega]; exact k3
    have e1 : (h4.enter k).rd h3.next 0 = some (.pointer (some ⟨bm, 0, none⟩)) := c1
    have e2 : (h4.enter k).rd (h3.next + 1) 0 = some (I a) := c2
    generalize hE : h4.enter k = E at s4E xE lE s0E p1 p2' p3' e1 e2
    have mE : MemAt E bm um C z c o r := m.sameB s0E (fun x => x) (fun _ _ x => x)
    have nF : ∀ j, h.next ≤ j → ¬ F j := fun j hj hf => by have := hFl j hf; omega
    have rdk : ∀ (q : Heap) (b : Nat) (v : Value), Same E q F → h.next ≤ b → b < E.next → E.rd b 0 = some v → q.rd b 0 = some v := by
      intro q b v s hb hb2 hv
      unfold Heap.rd at hv ⊢
      rw [s.get b hb2 (nF b hb)]; exact hv
    have memk : ∀ q, Same E q F → MemAt q bm um C z c o r := fun q s => mE.same s (fun e => (hFm bm e).1 rfl) (fun y hy e => (hFm y e).2 hy)
    obtain ⟨vv, hX, FX, F', iv', hF', sX⟩ := children1_spec hT V H V5 (yv := .func (.yield (h4.next + 1)) #[] #[]) (bm := bm) (um := um) (C := C) (z := z) (c := c) (o := o) (r := r) (a := a) (d := cs.length) (pm := h3.next) (pa := h3.next + 1) (cs := cs) rfl hC (by omega) p0 hcs hoks (fun f fs cs e => by cases e) (fun f fs cs e => by cases e)
      (fun i q => ∃ F', Iv (acc ++ contents (cs.take i)) F' q ∧ (∀ j, F' j → F j ∨ E.next ≤ j) ∧ Same E q F)
      (fun i q ⟨F', _, _, s⟩ => ⟨memk q s, rdk q _ _ s (by omega) (by omega) e1, rdk q _ _ s (by omega) (by omega) e2⟩)
      (fun i q q' ⟨F', i1, i2, s⟩ s' => ⟨F', cl.frame _ _ _ _ _ i1 s'.toB (fun _ _ x => x), i2, s.trans s' (fun _ _ x => x.elim)⟩)
      (fun i q q' ⟨_, _, _, s⟩ ⟨_, _, _, s'⟩ => by rw [s'.marks, s.marks])
      (fun i hi q ⟨F', i1, i2, s⟩ => by
        rw [callV_y]
        have lq : q.loops.get (h4.next + 1) = some k := by rw [s.loops _ (by omega) (nF _ (by omega))]; exact lE
        have nF' : ¬ F' (h4.next + 1) := fun e => (i2 _ e).elim (nF _ (by omega)) (fun e => by omega)
        refine yspec_round lq kts kn kps kasg kbody kst kpd rfl rfl (fun q1 hq1 => ?_)
        have b1 : SameB q (q.setL (h4.next + 1) { k with st := 1 } q.marks) (fun j => j = h4.next + 1) := sameB_setL _ _ _ _
        have l1 : (q.setL (h4.next + 1) { k with st := 1 } q.marks).loops.get (h4.next + 1) = some { k with st := 1 } := by rw [setL_loops, if_pos rfl]
        have x1q : (q.setL (h4.next + 1) { k with st := 1 } q.marks).next = q.next := rfl
        have m1q : (q.setL (h4.next + 1) { k with st := 1 } q.marks).marks = q.marks := rfl
        have bl1 : ∀ j, (q.setL (h4.next + 1) { k with st := 1 } q.marks).blks.get j = q.blks.get j := fun j => rfl
        rw [← hq1] at b1 l1 x1q m1q bl1
        simp only [cwf_seq, cwf_ops, cwf_block, owf_nil, o_p, o_r, bo_eq, optQ_some, pop, popQ, rop_load1, ldV_ptr, ev, putA, look_put, ite_true, ite_false, Nat.reduceEqDiff, true_and, putPs_nil, putPs_cons, t3]
        have xs := s.next
        have hcur : ∀ (b : Nat) (v : Value), h.next ≤ b → b < E.next → E.rd b 0 = some v → q1.rd b 0 = some v := by
          intro b v hb hb2 hv
          unfold Heap.rd at hv ⊢
          rw [bl1, s.get b hb2 (nF b hb)]; exact hv
        have u1 := hcur h.next _ (Nat.le_refl _) (by omega) p1
        have u2 : q1.rd h1.next 0 = some yv := hcur h1.next yv (by omega) (by omega) (by rw [rd_of p2']; rfl)
        have iv1 : Iv (acc ++ contents (cs.take i)) F' q1 := cl.frame _ _ _ _ _ i1 b1 (fun j hj e => nF' (e ▸ hj))
        have mq1 : MemAt q1 bm um C z c o r := (memk q s).sameB b1 (fun e => by have := mE.lt; omega) (fun y hy e => by have := huml y hy; omega)
        obtain ⟨_, q2, F2, rfl, ⟨F'', iv2, hF2⟩, s2q⟩ := ih cs[i] (List.getElem_mem _) q1 _ F' iv1 mq1 (oks_mem hoks i hi) (by
          have := contents_take cs hi
          have e : (Tr.inner a sz sh ch sm ks cs).content = contents cs := rfl
          rw [e] at hacc
          rw [List.length_append]; omega)
        have x2q := s2q.next
        simp only [o_p, o_r, owf_call, bo_eq, optQ_some, pop, popQ, rop_load1, ldV_ptr, ev, evs, putA, look_put, ite_true, ite_false, Nat.reduceEqDiff, u1, u2, t5]
        refine ⟨_, _, F2, ?_⟩
        simp only [c_false, cwf_skip, andThen_normal, blockQ_normal, owf_nil, o_p, behind_eq, bo_eq, optQ_some, pop, popQ, ev, putA, look_put, isB_false, ite_true, ite_false, Bool.not_true, Bool.not_false, Nat.reduceEqDiff, true_and]
        have l2 : q2.loops.get (h4.next + 1) = some { k with st := 1 } := by rw [s2q.loops _ (by omega) nF']; exact l1
        refine ⟨l2, F'', ?_, fun j hj => ?_, ?_⟩
        · rw [take_one cs hi, contents_app, ← List.append_assoc]
          have e : contents [cs[i]] = cs[i].content := by simp [contents]
          rw [e]
          exact cl.frame _ _ _ _ _ iv2 (sameB_setL _ _ _ _) (fun j hj e => (hF2 j hj).elim (fun e2 => nF' (e ▸ e2)) (fun e2 => by omega))
        · rcases hF2 j hj with e | e
          · exact i2 j e
          · exact .inr (by omega)
        · refine SameB.of ?_ ?_
          · refine SameB.less (b := h4.next + 1) (((s.toB.mono (T := fun j => F j ∨ j = h4.next + 1) (fun j e => .inl e)).trans b1 (fun j hj e => .inr e)).trans s2q.toB (fun j hj e => (i2 j e).elim .inl (fun e => by omega)) |>.trans (sameB_setL q2 (h4.next + 1) k q.marks) (fun j hj e => .inr e)) ?_ ?_
            · rw [setL_loops, if_pos rfl]; exact lE.symm
            · show q2.blks.get _ = _
              rw [s2q.get _ (by omega) nF', bl1, s.get _ (by omega) (nF _ (by omega))]
          · rw [setL_marks, s.marks]) (h := E) ⟨F, cl.frame _ _ _ _ _ (by simpa [contents] using iv) s0E (fun _ _ x => x), fun j hj => .inl hj, Same.refl _ _⟩
    rw [List.take_length] at iv'
    have lX : hX.loops.get (h4.next + 1) = some k := by rw [sX.loops _ (by omega) (nF _ (by omega))]; exact lE
    refine ⟨vv, hX, FX, lX, ?_⟩
    have xX := sX.next
    have bX : SameB hX (hX.setL (h4.next + 1) { k with st := 3 } hX.marks) (fun j => j = h4.next + 1) := sameB_setL _ _ _ _
    have blX : ∀ j, (hX.setL (h4.next + 1) { k with st := 3 } hX.marks).blks.get j = hX.blks.get j := fun j => rfl
    have xY : (hX.setL (h4.next + 1) { k with st := 3 } hX.marks).next = hX.next := rfl
    simp only [cwf_seq, cwf_ops, andThen_normal, blockQ_normal, o_e, ev, eop_store1, st1, scalar_bool]
    generalize hX.setL (h4.next + 1) { k with st := 3 } hX.marks = Y at bX blX xY
    have g6 : Y.blks.get h2.next = some ⟨[.bool false], 1, 1, true, false⟩ := by rw [blX, sX.get h2.next (by omega) (nF _ (by omega))]; exact p3'
    have w6 : Y.wrs h2.next 0 [.bool true] = some (Y.setB h2.next ⟨[.bool true], 1, 1, true, false⟩) := wrs1_of g6 rfl (by simp) rfl
    have s6 : Same Y (Y.setB h2.next ⟨[.bool true], 1, 1, true, false⟩) (fun j => j = h2.next) := Same.setB rfl
    have g7 : (Y.setB h2.next ⟨[.bool true], 1, 1, true, false⟩).blks.get h2.next = some ⟨[.bool true], 1, 1, true, false⟩ := by rw [setB_get, if_pos rfl]
    generalize Y.setB h2.next ⟨[.bool true], 1, 1, true, false⟩ = Z at w6 s6 g7
    have r6 : Z.rd h2.next 0 = some (.bool true) := rd_of g7
    simp only [cwf_ret, andThen_normal, fnQ_ret, owf_nil, behind_eq, opt2_some, putA, resAll, resA, mkRes1, Option.some.injEq, exists_eq_left', true_and, t6, w6, r6]
    have nF' : ∀ j, h.next ≤ j → j < E.next → ¬ F' j := fun j h1 h2 hf => (hF' j hf).elim (nF j h1) (fun e => by omega)
    have xZ := s6.next
    have sZ : SameB h Z F := (((s0E.mono (T := F) (fun _ x => x.elim)).trans sX.toB (fun _ _ x => x)).trans bX (fun j hj e => by omega)).trans s6.toB (fun j hj e => by omega)
    refine ⟨⟨F', ?_, fun j hj => (hF' j hj).imp_right (fun e => by omega)⟩, sZ.close⟩
    refine cl.frame _ _ _ _ _ iv' (((bX.mono (T := fun j => j = h4.next + 1 ∨ j = h2.next) (fun j e => .inl e)).trans s6.toB (fun j hj e => .inr e)).trans (⟨Nat.le_refl _, fun _ _ _ => rfl, fun _ _ _ => rfl⟩ : SameB Z { Z with marks := h.marks } (fun _ => False)) (fun _ _ x => x.elim)) (fun j hj e => ?_)
    rcases e with e | e
    · exact nF' j (by omega) (by omega) hj
    · exact nF' j (by omega) (by omega) hj
end
end
end Go.Proofs.YtpeihcpclcibgaaGreat.Ai
/- Is a word one of the tree; what is below it. -/
namespace Go.Proofs.YtpeihcpclcibgaaGreat.Ai
open Go.Proofs.YtpeihcpclcibgaaGreat
noncomputable section
open Go.RowKit
structure HasV6 (tab : Nat → Option AFunc) : Prop where
  v48 : tab 24 = some af24
  v78 : tab 77 = some af77
  v80 : tab 79 = some af79
  v113 : tab 127 = some af127
  v114 : tab 128 = some af128
  v129 : tab 183 = some af183

theorem hasV6 : HasV6 tabT.get := ⟨by kernel_rfl, by kernel_rfl, by kernel_rfl, by kernel_rfl, by kernel_rfl, by kernel_rfl⟩

theorem boxV2 (h : Heap) (a b : Value) : boxV h 2 (.agg #[a, b]) = some (.pointer (some ⟨h.next, 0, none⟩), h.new ⟨[a, b], 2, 2, true, false⟩) := (rfl)

section
variable {P : Program} {tab : Nat → Option AFunc} (hT : TabOk P tab) (V : HasV tab)
include hT

theorem has1_spec (V6 : HasV6 tab) {h : Heap} {bx : Nat} {w : Int} (hb : h.rd bx 0 = some (I w)) (hlt : bx < h.next) (s x : Int) : FSpec P 128 [.agg #[I s, I x], .pointer (some ⟨bx, 0, none⟩)] h fun v h' => v = .bool (x == w) ∧ Same h h' (fun _ => False) := by
  refine fspec_cwf hT V6.v114 rfl ?_
  have s1 : Same h (h.new ⟨[I s, I x], 2, 2, true, false⟩) (fun _ => False) := Same.new
  have g1 : (h.new ⟨[I s, I x], 2, 2, true, false⟩).rd h.next 1 = some (I x) := by rw [rd_of (by rw [new_get, if_pos rfl])]; rfl
  have g2 : (h.new ⟨[I s, I x], 2, 2, true, false⟩).rd bx 0 = some (I w) := by
    unfold Heap.rd at hb ⊢
    rw [s1.get bx hlt (fun x => x)]; exact hb
  generalize hh : h.new ⟨[I s, I x], 2, 2, true, false⟩ = k at s1 g1 g2
  simp only [af128, cwf_seq, cwf_ops, cwf_ret, andThen_normal, fnQ_ret, owf_nil, o_p, o_r, o_e, behind_eq, bo_eq, optQ_some, opt2_some, pop, popQ, rop_load1, ldV_ptr, ev, putA, putArgs, look_put, abinF_eq, abin, resAll, resA, mkRes1, eop_box, decide_true, cond_true, ite_true, ite_false, Nat.reduceEqDiff, Nat.zero_add, Option.some.injEq, exists_eq_left', true_and, boxV2, hh, g1, g2]
  rw [tail_marks h k s1.marks]
  exact s1

theorem find_spec (V6 : HasV6 tab) {h : Heap} {bx : Nat} {w : Int} (hb : h.rd bx 0 = some (I w)) (hlt : bx < h.next) {x p n cap : Nat} {Sp : List Pr} (r : RdAt h x p 2 n cap (flat Sp)) (hl : Sp.length = n) (hn : n < 1000000) (hw : ∃ q ∈ Sp, q.2 = w) : FSpec P 127 [.slice (some ⟨x, p, none⟩) n cap, .func (.func 128) #[] #[.pointer (some ⟨bx, 0, none⟩)]] h fun v h' => v = .bool true ∧ Same h h' (fun _ => False) := by
  have F129 : FSpec P 183 [.slice (some ⟨x, p, none⟩) n cap, .func (.func 128) #[] #[.pointer (some ⟨bx, 0, none⟩)]] h fun v h' => (∃ i : Nat, v = I i) ∧ Same h h' (fun _ => False) := by
    refine fspec_cwf hT V6.v129 rfl ?_
    simp only [af183, cwf_seq, cwf_ops, cwf_block, cwf_loop, andThen_normal, owf_nil, o_p, bo_eq, optQ_some, pop, popQ, ev, putA, putArgs, look_put, Int.reduceNeg, cond_false, ite_true, ite_false, Nat.reduceEqDiff, Nat.zero_add]
    refine cw_loop (fun k ts h' => ∃ i : Nat, k = n - i ∧ i ≤ n ∧ look ts 0 = .slice (some ⟨x, p, none⟩) n cap ∧ look ts 1 = .func (.func 128) #[] #[.pointer (some ⟨bx, 0, none⟩)] ∧ look ts 7 = I n ∧ look ts 8 = I i ∧ (∀ j (hj : j < Sp.length), j < i → Sp[j].2 ≠ w) ∧ Same h h' (fun _ => False)) ?_ (n := n) ⟨0, rfl, Nat.zero_le _, by simp only [look_put, ite_true, ite_false, Nat.reduceEqDiff], by simp only [look_put, ite_true, ite_false, Nat.reduceEqDiff], by simp only [look_put, ite_true, ite_false, Nat.reduceEqDiff], by simp only [look_put, Int.cast_ofNat_Int, ite_true, ite_false, Nat.reduceEqDiff] <;> rfl, fun j hj h => by omega, Same.refl _ _⟩
    rintro k ts h' ⟨i, rfl, i2, t0, t1, t7, t8, hno, sm⟩
    refine cwf_cw ?_
    by_cases hi : i < n
    · have ci : ((i : Int) < n) = True := by simp [hi]
      have wi : wrapF .i64 ((i : Int) + 1) = ((i + 1 : Nat) : Int) := by rw [wrapI] <;> omega
      have his : i < Sp.length := by omega
      have rr : RdAt h' x p 2 Sp.length cap (flat Sp) := by rw [hl]; exact r.same sm (fun x => x)
      have q1 := ldN_of (pair_rds rr his)
      have hb' : h'.rd bx 0 = some (I w) := by
        unfold Heap.rd at hb ⊢
        rw [sm.get bx hlt (fun x => x)]; exact hb
      obtain ⟨_, h2, F, rfl, s2⟩ := has1_spec hT V6 hb' (Nat.lt_of_lt_of_le hlt sm.next) Sp[i].1 Sp[i].2
      simp only [cwf_seq, cwf_ops, c_true, cwf_skip, cwf_block, andThen_normal, owf_nil, o_p, o_r, bo_eq, optQ_some, pop, popQ, ev, evs, putA, look_put, isB_true, abinF_eq, abin, Int.toNat_natCast, Int.natCast_nonneg, Int.reduceNeg, inB_eq, decide_true, cond_true, ite_true, ite_false, Bool.and_true, Nat.reduceEqDiff, o_callv, callV_f, List.nil_append, List.cons_append, rop_loadN, t0, t1, t7, t8, ci, q1]
      refine ⟨_, _, F, ?_⟩
      have sf := sm.trans s2 (fun _ _ x => x)
      by_cases hc : Sp[i].2 = w
      · have e : (Sp[i].2 == w) = true := by rw [hc]; simp
        simp only [cwf_seq, cwf_ops, cwf_ret, c_true, andThen_normal, andThen_ret, blockQ_ret, roundQ_ret, fnQ_ret, owf_nil, o_p, behind_eq, bo_eq, optQ_some, pop, popQ, ev, putA, look_put, isB_true, resAll, resA, mkRes1, Int.reduceNeg, ite_true, ite_false, Nat.reduceEqDiff, Option.some.injEq, exists_eq_left', e]
        rw [tail_marks h h2 sf.marks]
        exact ⟨⟨i, rfl⟩, sf⟩
      · have e : (Sp[i].2 == w) = false := by simp [hc]
        simp only [cwf_ops, c_false, cwf_skip, andThen_normal, blockQ_normal, roundQ_normal, owf_nil, o_p, behind_eq, bo_eq, optQ_some, pop, popQ, ev, putA, look_put, isB_false, abinF_eq, abin, Int.reduceNeg, decide_true, cond_true, ite_true, ite_false, Bool.not_false, Nat.reduceEqDiff, true_and, t0, t1, t7, t8, e, wi]
        refine ⟨n - (i + 1), by omega, i + 1, rfl, by omega, rfl, fun j hj hji => ?_, sf⟩
        by_cases q : j < i
        · exact hno j hj q
        · have : j = i := by omega
          subst this; exact hc
    · exfalso
      obtain ⟨q, hq, hqw⟩ := hw
      obtain ⟨j, hj, rfl⟩ := List.getElem_of_mem hq
      exact hno j hj (by omega) hqw
  obtain ⟨_, h1, F1, ⟨i, rfl⟩, s1⟩ := F129
  refine fspec_cwf hT V6.v113 rfl ?_
  have c1 : ((i : Int) ≥ 0) = True := by simp
  simp only [af127, cwf_seq, cwf_ops, andThen_normal, owf_nil, o_p, owf_call, bo_eq, optQ_some, pop, popQ, ev, evs, putA, putArgs, look_put, ite_true, ite_false, Nat.reduceEqDiff, Nat.zero_add]
  refine ⟨_, _, F1, ?_⟩
  simp only [cwf_ret, andThen_normal, fnQ_ret, owf_nil, o_p, behind_eq, bo_eq, optQ_some, pop, popQ, ev, putA, look_put, abinF_eq, abin, resAll, resA, mkRes1, decide_true, cond_true, ite_true, ite_false, Nat.reduceEqDiff, Option.some.injEq, exists_eq_left', true_and, c1]
  rw [tail_marks h h1 s1.marks]
  exact s1

include V

theorem none_spec (h : Heap) (w : Int) : FSpec P 126 [.slice none 0 0, I w] h fun v h' => v = .bool false ∧ h' = h := by
  have F128 : FSpec P 182 [.slice none 0 0, I w] h fun v h' => v = I (-1) ∧ h' = h := by
    refine fspec_cwf hT V.v128 rfl ?_
    simp only [af182, cwf_seq, cwf_ops, cwf_block, cwf_loop, andThen_normal, owf_nil, o_p, bo_eq, optQ_some, pop, popQ, ev, putA, putArgs, look_put, Int.cast_ofNat_Int, Int.reduceNeg, cond_false, ite_true, ite_false, Nat.reduceEqDiff, Nat.zero_add]
    refine cw_lw (lw_step ?_)
    simp only [cwf_seq, cwf_ops, cwf_ret, c_false, cwf_exit, andThen_normal, andThen_exit, blockQ_exit, lwQ_exit, fnQ_ret, owf_nil, o_p, bo_eq, optQ_some, pop, popQ, ev, putA, look_put, isB_false, abinF_eq, abin, resAll, resA, mkRes1, Int.reduceLT, Int.reduceNeg, decide_true, decide_false, cond_true, ite_true, ite_false, Bool.not_false, Nat.reduceEqDiff, Option.some.injEq, exists_eq_left', and_true]
  obtain ⟨_, h1, F1, rfl, rfl⟩ := F128
  refine fspec_cwf hT V.v112 rfl ?_
  have c1 : ((-1 : Int) ≥ 0) = False := by simp
  simp only [af126, cwf_seq, cwf_ops, andThen_normal, owf_nil, o_p, owf_call, bo_eq, optQ_some, pop, popQ, ev, evs, putA, putArgs, look_put, ite_true, ite_false, Nat.reduceEqDiff, Nat.zero_add]
  refine ⟨_, _, F1, ?_⟩
  simp only [cwf_ret, andThen_normal, fnQ_ret, owf_nil, o_p, behind_eq, bo_eq, optQ_some, pop, popQ, ev, putA, look_put, abinF_eq, abin, resAll, resA, mkRes1, Int.reduceNeg, decide_true, decide_false, cond_true, ite_true, ite_false, Nat.reduceEqDiff, Option.some.injEq, exists_eq_left', and_true, c1]

theorem has_spec (V6 : HasV6 tab) {h : Heap} {bt bm ut : Nat} {us um : Option Nat} {C : List Int} {z c o r : Int} {T : List Bool} {Sp : List Pr} {bs : Bool} (w : Vw h bt bm ut us um C z c o r T Sp bs) (hl : Sp.length < 1000000) {x : Int} (hx : ∃ q ∈ Sp, q.2 = x) : FSpec P 77 [.pointer (some ⟨bt, 0, none⟩), I x] h fun v h' => v = .bool true ∧ Same h h' (fun _ => False) := by
  refine fspec_cwf hT V6.v78 rfl ?_
  have s1 : Same h (h.new ⟨[I x], 1, 1, true, false⟩) (fun _ => False) := Same.new
  have g1 : (h.new ⟨[I x], 1, 1, true, false⟩).rd h.next 0 = some (I x) := by rw [rd_of (by rw [new_get, if_pos rfl])]; rfl
  have x1 : (h.new ⟨[I x], 1, 1, true, false⟩).next = h.next + 1 := rfl
  generalize hh : h.new ⟨[I x], 1, 1, true, false⟩ = k at s1 g1 x1
  have w1 := w.same s1
  have r3 : k.rd bt 3 = some (.slice none 0 0) := rd_of w1.blk
  have r2 : k.rd bt 2 = some (ownSl us Sp.length) := rd_of w1.blk
  obtain ⟨_, k, F1, rfl, rfl⟩ := none_spec hT V k x
  have hpos : Sp ≠ [] := by
    obtain ⟨q, hq, _⟩ := hx
    intro e; rw [e] at hq; simp at hq
  obtain ⟨y, rfl⟩ : ∃ y, us = some y := by
    cases us with
    | none => have := w1.sp.non rfl; exact (hpos (List.eq_nil_of_length_eq_zero this)).elim
    | some y => exact ⟨y, rfl⟩
  obtain ⟨_, h2, F2, rfl, s2⟩ := find_spec hT V6 g1 (by omega) w1.sp.rd rfl hl hx
  simp only [af77, cwf_seq, cwf_ops, cwf_draw, andThen_normal, owf_nil, o_p, o_e, behind_eq, bo_eq, bd_eq, optQ_some, opt2_some, d_p, d_r, pop, popQ, rop_load1, ldV_ptr, ev, putA, putArgs, look_put, eop_box, scalar_int, ite_true, ite_false, Nat.reduceEqDiff, Nat.zero_add, box1, hh]
  refine ⟨cfOf 126 _ k _ k (cfOf 127 _ k _ h2 cf00), cfOf_ok F1 (cfOf_ok F2 cf00_ok), ?_⟩
  have e1 := @cfOf_eq 126 [.slice none 0 0, I x] k (.bool false) k (cfOf 127 [.slice (some ⟨y, 0, none⟩) Sp.length Sp.length, .func (.func 128) #[] #[.pointer (some ⟨h.next, 0, none⟩)]] k (.bool true) h2 cf00)
  have e2 : cfOf 126 [.slice none 0 0, I x] k (.bool false) k (cfOf 127 [.slice (some ⟨y, 0, none⟩) Sp.length Sp.length, .func (.func 128) #[] #[.pointer (some ⟨h.next, 0, none⟩)]] k (.bool true) h2 cf00) (.fn 127) [.slice (some ⟨y, 0, none⟩) Sp.length Sp.length, .func (.func 128) #[] #[.pointer (some ⟨h.next, 0, none⟩)]] k = some (.bool true, h2) := by rw [cfOf_ne (by decide)]; exact cfOf_eq
  simp only [ownSl, Option.map_some] at r2
  simp only [cwf_ret, andThen_normal, fnQ_ret, bd_eq, bd2_eq, optQ_some, opt2_some, dwf_nil, d_p, d_r, d_call, d_on, pop, popQ, rop_load1, ldV_ptr, ev, evs, putA, look_put, isB_false, resAll, resA, mkRes1, cond_false, ite_true, ite_false, Bool.not_false, Nat.reduceEqDiff, Nat.zero_add, Option.some.injEq, exists_eq_left', true_and, r3, g1, r2, e1, e2]
  have sf := s1.trans s2 (fun _ _ x => x)
  rw [tail_marks h h2 sf.marks]
  exact sf

/-- what Content keeps -/
def ContI (bm : Nat) (um : Option Nat) (h0 : Heap) (bx : Nat) (acc : List Pr) (F : Nat → Prop) (h : Heap) : Prop :=
  ∃ uo, h.blks.get bx = some ⟨[ownSl uo acc.length], 1, 1, true, false⟩ ∧ OwnAt h uo 2 acc.length (flat acc) ∧ (∀ j, F j ↔ j = bx ∨ uo = some j) ∧ bx < h.next ∧ bx ≠ bm ∧ um ≠ some bx ∧ (∀ y, uo = some y → y ≠ bx ∧ y ≠ bm ∧ um ≠ some y ∧ h0.next ≤ y)

omit V in
theorem content1_client (V6 : HasV6 tab) {bm : Nat} {um : Option Nat} {C : List Int} {z c o r : Int} {bx : Nat} {h0 : Heap} (hb0 : h0.next ≤ bx) : Client P bm um C z c o r (.func (.func 79) #[] #[.pointer (some ⟨bx, 0, none⟩)]) (ContI bm um h0 bx) := by
  refine ⟨?_, ?_, ?_, ?_, rfl, ?_, ?_, ?_, ?_⟩
  · rintro acc F h ⟨uo, h1, h2, h3, h4, _⟩ j hj
    rcases (h3 j).1 hj with e | e
    · omega
    · exact (h2.use j e).2.1
  · rintro acc F h h' S ⟨uo, h1, h2, h3, h4, h5, h6, h7⟩ s hs
    refine ⟨uo, by rw [s.get bx h4 (hs bx ((h3 bx).2 (.inl rfl)))]; exact h1, ?_, h3, Nat.lt_of_lt_of_le h4 s.next, h5, h6, h7⟩
    exact ⟨fun x hx => by
      obtain ⟨q1, q2, q3⟩ := h2.use x hx
      exact ⟨by rw [s.get x q2 (hs x ((h3 x).2 (.inr hx)))]; exact q1, Nat.lt_of_lt_of_le q2 s.next, q3⟩, h2.non, h2.len, h2.sc⟩
  · rintro acc F h ⟨uo, h1, h2, h3, h4, h5, h6, h7⟩ j hj
    rcases (h3 j).1 hj with e | e
    · rw [e]; exact ⟨h5, h6⟩
    · exact ⟨(h7 j e).2.1, (h7 j e).2.2.1⟩
  · rintro acc F h p hacc ⟨uo, h1, h2, h3, h4, h5, h6, h7⟩ m
    rw [callV_f]
    show FSpec P 79 [I p.1, I p.2, .pointer (some ⟨bx, 0, none⟩)] h _
    refine fspec_cwf hT V6.v80 rfl ?_
    have r1 : h.rd bx 0 = some (ownSl uo acc.length) := rd_of h1
    have hcell : RdAt (h.new ⟨[I p.1, I p.2], 2, 2, true, false⟩) h.next 0 2 1 1 [I p.1, I p.2] := RdAt.fresh h [I p.1, I p.2] 1 2 true false rfl
    have s1 : Same h (h.new ⟨[I p.1, I p.2], 2, 2, true, false⟩) (fun _ => False) := Same.new
    have x1 : (h.new ⟨[I p.1, I p.2], 2, 2, true, false⟩).next = h.next + 1 := rfl
    generalize hh1 : h.new ⟨[I p.1, I p.2], 2, 2, true, false⟩ = k1 at hcell s1 x1
    obtain ⟨uo', k2, a2, o2, s2, n2⟩ := app_own (bytes := 16) (h2.same s1 (fun _ _ x => x)) hcell.src rfl rfl (by omega) (by omega) (by omega)
    have x2 := s2.next
    have g2 : k2.blks.get bx = some ⟨[ownSl uo acc.length], 1, 1, true, false⟩ := by rw [s2.get bx (by omega) (fun e => (h7 bx e).1 rfl), s1.get bx h4 (fun x => x)]; exact h1
    have w2 : k2.wrs bx 0 [ownSl uo' (acc.length + 1)] = some (k2.setB bx ⟨[ownSl uo' (acc.length + 1)], 1, 1, true, false⟩) := wrs1_of g2 rfl (by simp) rfl
    have s3 : Same k2 (k2.setB bx ⟨[ownSl uo' (acc.length + 1)], 1, 1, true, false⟩) (fun j => j = bx) := Same.setB rfl
    have g3 : (k2.setB bx ⟨[ownSl uo' (acc.length + 1)], 1, 1, true, false⟩).blks.get bx = some ⟨[ownSl uo' (acc.length + 1)], 1, 1, true, false⟩ := by rw [setB_get, if_pos rfl]
    generalize k2.setB bx ⟨[ownSl uo' (acc.length + 1)], 1, 1, true, false⟩ = k3 at w2 s3 g3
    have x3 := s3.next
    simp only [af79, cwf_seq, cwf_ops, cwf_ret, andThen_normal, fnQ_ret, owf_nil, o_p, o_r, o_e, behind_eq, bo_eq, optQ_some, opt2_some, pop, popQ, rop_load1, ldV_ptr, ev, putA, putArgs, look_put, resAll, resA, mkRes1, eop_store1, eop_app, st1, eop_buildS, bldS_some, evP_nil, evP_cons, fillA_nil, fillA_one, fillA_pair, List.length_cons, List.length_nil, List.set_cons_zero, List.set_cons_succ, Nat.reduceLT, Nat.lt_add_one, scalar_slice, scalar_int, ite_true, ite_false, Nat.reduceEqDiff, Nat.reduceAdd, Nat.zero_add, Nat.reduceMul, Option.some.injEq, exists_eq_left', true_and, r1, hh1, a2, w2]
    have sf : Same h k3 F := ((s1.mono (T := F) (fun _ x => x.elim)).trans s2 (fun j _ e => (h3 j).2 (.inr e))).trans s3 (fun j _ e => (h3 j).2 (.inl e))
    rw [tail_marks h k3 sf.marks]
    have hn : ∀ y, uo' = some y → y ≠ bx ∧ y ≠ bm ∧ um ≠ some y ∧ h0.next ≤ y := fun y hy => by
      rcases n2 y hy with e | e
      · exact h7 y e
      · have := m.lt
        exact ⟨by omega, by omega, fun e2 => by have := (m.use y e2).2.2.1; omega, by omega⟩
    refine ⟨fun j => j = bx ∨ uo' = some j, ⟨uo', ?_, ?_, fun j => Iff.rfl, by omega, h5, h6, hn⟩, sf, fun j hj => ?_⟩
    · rw [g3]; simp
    · have := o2.same s3 (fun y hy e => (hn y hy).1 e)
      rw [flat_app, List.length_append]; exact this
    · rcases hj with e | e
      · exact .inl ((h3 j).2 (.inl e))
      · rcases n2 j e with e2 | e2
        · exact .inl ((h3 j).2 (.inr e2))
        · exact .inr (by omega)
  · simp [veq, veqs, veq1]
  · rintro f fs cs e; cases e; simp
  · rintro f fs cs e; cases e; simp
  · rintro f fs cs e; cases e; simp

theorem content_spec (H : Has tab) (V2 : HasV2 tab) (V3 : HasV3 tab) (V4 : HasV4 tab) (V5 : HasV5 tab) (V6 : HasV6 tab) {h : Heap} {bm : Nat} {um : Option Nat} {C : List Int} {z c o r : Int} {t : Tr} (m : MemAt h bm um C z c o r) (R : Rooted C t) (hl : t.content.length ≤ 100000) : FSpec P 24 [.pointer (some ⟨bm, 0, none⟩), I t.word] h fun v h' => (∃ u, v = ownSl u t.content.length ∧ OwnAt h' u 2 t.content.length (flat t.content) ∧ ∀ y, u = some y → h.next ≤ y) ∧ Same h h' (fun _ => False) := by
  refine fspec_cwf hT V6.v48 rfl ?_
  obtain ⟨_, h1, F1, bt, ut, us, rfl, w, _, s1⟩ := survey_spec hT V H V2 V3 V4 m R
  obtain ⟨_, h2, F2, rfl, s2⟩ := has_spec hT V V6 w (by have := R.few; simp; omega) (x := t.word) ⟨((6 : Int), t.word), by simp, rfl⟩
  have s02 := s1.trans s2 (fun _ _ x => x)
  have m2 := m.same s02 (fun x => x) (fun _ _ x => x)
  have x2 := s02.next
  have hbm := m.lt
  have huml := fun y hy => (m.use y hy).2.2.1
  have s3 : Same h2 (h2.new ⟨[.slice none 0 0], 1, 1, true, false⟩) (fun _ => False) := Same.new
  have g3 : (h2.new ⟨[.slice none 0 0], 1, 1, true, false⟩).blks.get h2.next = some ⟨[.slice none 0 0], 1, 1, true, false⟩ := by rw [new_get, if_pos rfl]
  have x3 : (h2.new ⟨[.slice none 0 0], 1, 1, true, false⟩).next = h2.next + 1 := rfl
  generalize hh3 : h2.new ⟨[.slice none 0 0], 1, 1, true, false⟩ = h3 at s3 g3 x3
  obtain ⟨_, h4, F4, rfl, ⟨F', ⟨uo, q1, q2, q3, q4, q5, q6, q7⟩, hF'⟩, s4⟩ := leaves_spec hT V H V5 (content1_client hT V6 (bm := bm) (um := um) (C := C) (z := z) (c := c) (o := o) (r := r) (bx := h2.next) (h0 := h2) (Nat.le_refl _)) R.len.2 t h3 [] (fun j => j = h2.next)
    ⟨none, g3, OwnAt.nil _ _, fun j => ⟨fun e => .inl e, fun e => e.elim id (fun e => by cases e)⟩, by omega, by omega, fun e => by have := huml _ e; omega, fun y hy => by cases hy⟩ (m2.same s3 (fun x => x) (fun _ _ x => x)) R.ok (by simpa using hl)
  have r4 : h4.rd h2.next 0 = some (ownSl uo t.content.length) := by rw [rd_of q1]; rfl
  simp only [af24, cwf_seq, cwf_ops, andThen_normal, owf_nil, o_p, owf_call, bo_eq, optQ_some, pop, popQ, ev, evs, putA, putArgs, look_put, ite_true, ite_false, Nat.reduceEqDiff, Nat.zero_add]
  refine ⟨_, _, F1, ?_⟩
  simp only [cwf_seq, cwf_ops, andThen_normal, owf_nil, o_p, owf_call, o_on, behind_eq, bo_eq, optQ_some, pop, popQ, ev, evs, putA, look_put, isB_false, ite_true, ite_false, Bool.not_true, Bool.not_false, Nat.reduceEqDiff, List.getElem?_cons_zero, List.getElem?_cons_succ]
  refine ⟨_, _, F2, ?_⟩
  simp only [cwf_seq, cwf_ops, c_false, cwf_skip, andThen_normal, owf_nil, o_p, o_e, owf_call, o_on, behind_eq, bo_eq, optQ_some, opt2_some, pop, popQ, ev, evs, putA, look_put, isB_false, List.length_cons, List.length_nil, cond_false, ite_true, ite_false, Bool.not_true, Bool.not_false, Nat.reduceEqDiff, Nat.zero_add, eop_alloc, List.length_cons, List.length_nil, hh3]
  refine ⟨_, _, F4, ?_⟩
  simp only [cwf_seq, cwf_ops, cwf_ret, andThen_normal, fnQ_ret, owf_nil, o_p, o_r, behind_eq, bo_eq, optQ_some, pop, popQ, rop_load1, ldV_ptr, ev, putA, look_put, resAll, resA, mkRes1, ite_true, ite_false, Nat.reduceEqDiff, Option.some.injEq, exists_eq_left', r4]
  have sf : Same h h4 (fun _ => False) := (s02.trans s3 (fun _ _ x => x)).trans s4 (fun j hj e => by omega)
  rw [tail_marks h h4 sf.marks]
  exact ⟨⟨uo, rfl, q2, fun y hy => by have := (q7 y hy).2.2.2; omega⟩, sf⟩
end
end
end Go.Proofs.YtpeihcpclcibgaaGreat.Ai
