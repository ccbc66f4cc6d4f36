/- Trees in cells: what is below a word, in plain lists and numbers. -/
import Derived.Test.YtedldiimhbebdaaPX
namespace Go.Proofs.Ytedldiimhbebdaa.Ai
open Go.Proofs.Ytedldiimhbebdaa
noncomputable section
set_option linter.unusedVariables false

/-- a tree: its records' addresses, and what they hold -/
inductive Tr where
  | empty (a : Nat)
  | leaf (a : Nat) (k v : Int)
  | inner (a : Nat) (sz sh ch sm : Int) (ks : List Int) (cs : List Tr)

def Tr.adr : Tr → Nat
  | .empty a => a
  | .leaf a _ _ => a
  | .inner a _ _ _ _ _ _ => a
def Tr.kind : Tr → Int
  | .empty _ => 1
  | .leaf _ _ _ => 2
  | .inner _ _ _ _ _ _ _ => 3
def Tr.word (t : Tr) : Int := (t.adr : Int) * 8 + t.kind

/-- what a cell holds -/
def at0 (C : List Int) (a : Nat) : Int := if a = 0 then 0 else (C[a - 1]?).getD 0

def limN (n : Int) : Int := if 0 ≤ n ∧ n ≤ 16384 then n / 4 + 2 else 0

mutual
/-- it lies in these cells -/
def Tr.ok (C : List Int) : Tr → Prop
  | .empty a => 1 ≤ a ∧ a ≤ C.length
  | .leaf a k v => 1 ≤ a ∧ a + 1 ≤ C.length ∧ at0 C a = k ∧ at0 C (a + 1) = v
  | .inner a sz sh ch sm ks cs => (1 ≤ a ∧ a + (2 * cs.length + 4) ≤ C.length + 1 ∧ cs.length = ks.length + 1 ∧ 1 ≤ ks.length) ∧ (at0 C a = cs.length ∧ at0 C (a + 1) = sz ∧ at0 C (a + 2) = sh ∧ at0 C (a + 3) = ch ∧ at0 C (a + 4) = sm) ∧
      (sh = 0 ∨ sh = 1) ∧ (-1000000000000 ≤ sz ∧ sz ≤ 1000000000000) ∧ (∀ i (h : i < ks.length), at0 C (a + 5 + i) = ks[i]) ∧ (∀ i (h : i < cs.length), at0 C (a + 4 + cs.length + i) = cs[i].word) ∧ oks C cs
def oks (C : List Int) : List Tr → Prop
  | [] => True
  | t :: cs => t.ok C ∧ oks C cs
end

mutual
def Tr.content : Tr → List Pr
  | .empty _ => []
  | .leaf _ k v => [(k, v)]
  | .inner _ _ _ _ _ _ cs => contents cs
def contents : List Tr → List Pr
  | [] => []
  | t :: cs => t.content ++ contents cs
end

mutual
/-- all keys lie where they belong -/
def Tr.ord (lo hi : Int) : Tr → Prop
  | .empty _ => True
  | .leaf _ k _ => lo ≤ k ∧ k ≤ hi
  | .inner _ _ _ _ _ ks cs => ords lo hi ks cs
def ords (lo hi : Int) : List Int → List Tr → Prop
  | [], [c] => c.ord lo hi
  | k :: ks, c :: cs => lo < k ∧ k ≤ hi ∧ c.ord lo (k - 1) ∧ ords k hi ks cs
  | _, _ => False
end

def setR (T : List Bool) (a n : Nat) : List Bool := (List.range T.length).map fun i => if a ≤ i ∧ i < a + n then true else (T[i]?).getD false
def freeR (T : List Bool) (a n : Nat) : Prop := ∀ i, a ≤ i → i < a + n → T[i]? = some false

mutual
/-- the cells that were gone through, behind it -/
def Tr.marks (T : List Bool) : Tr → List Bool
  | .empty a => setR T a 1
  | .leaf a _ _ => setR T a 2
  | .inner a _ _ _ _ _ cs => markss (setR T a (2 * cs.length + 4)) cs
def markss (T : List Bool) : List Tr → List Bool
  | [] => T
  | t :: cs => markss (t.marks T) cs
end

mutual
/-- none of its cells was gone through yet -/
def Tr.free (T : List Bool) : Tr → Prop
  | .empty a => freeR T a 1
  | .leaf a _ _ => freeR T a 2
  | .inner a _ _ _ _ _ cs => freeR T a (2 * cs.length + 4) ∧ frees (setR T a (2 * cs.length + 4)) cs
def frees (T : List Bool) : List Tr → Prop
  | [] => True
  | t :: cs => t.free T ∧ frees (t.marks T) cs
end

mutual
/-- the slots below it -/
def Tr.spots : Tr → List Pr
  | .empty _ => []
  | .leaf _ _ _ => []
  | .inner a _ _ _ _ _ cs => spotss (a + 4 + cs.length) cs
def spotss (s : Nat) : List Tr → List Pr
  | [] => []
  | t :: cs => ((s : Int), t.word) :: (t.spots ++ spotss (s + 1) cs)
end

mutual
def Tr.busy : Tr → Bool
  | .empty _ => false
  | .leaf _ _ _ => false
  | .inner _ sz sh ch _ _ cs => (decide (sh = 1) || decide (limN sz ≤ ch)) || busys cs
def busys : List Tr → Bool
  | [] => false
  | t :: cs => t.busy || busys cs
end

mutual
def Tr.deep : Tr → Nat
  | .empty _ => 0
  | .leaf _ _ _ => 0
  | .inner _ _ _ _ _ _ cs => 1 + deeps cs
def deeps : List Tr → Nat
  | [] => 0
  | t :: cs => max t.deep (deeps cs)
end

theorem Tr.ind {M : Tr → Prop} (e : ∀ a, M (.empty a)) (l : ∀ a k v, M (.leaf a k v)) (i : ∀ a sz sh ch sm ks cs, (∀ c ∈ cs, M c) → M (.inner a sz sh ch sm ks cs)) : ∀ t, M t := by
  intro t
  exact Tr.rec (motive_1 := M) (motive_2 := fun cs => ∀ c ∈ cs, M c) e l (fun a sz sh ch sm ks cs ih => i a sz sh ch sm ks cs ih) (by simp) (fun h r ih1 ih2 c hc => by
    rcases List.mem_cons.1 hc with rfl | hc
    · exact ih1
    · exact ih2 c hc) t

theorem setR_len (T : List Bool) (a n : Nat) : (setR T a n).length = T.length := by simp [setR]
theorem setR_get {T : List Bool} {a n i : Nat} (hi : i < T.length) : (setR T a n)[i]? = some (if a ≤ i ∧ i < a + n then true else (T[i]?).getD false) := by simp [setR, hi]

theorem markss_len : ∀ (t : Tr) (T : List Bool), (t.marks T).length = T.length := by
  intro t
  induction t using Tr.ind with
  | e a => intro T; exact setR_len _ _ _
  | l a k v => intro T; exact setR_len _ _ _
  | i a sz sh ch sm ks cs ih =>
    intro T
    have key : ∀ (cs : List Tr) (T : List Bool), (∀ c ∈ cs, ∀ T, (c.marks T).length = T.length) → (markss T cs).length = T.length := by
      intro cs
      induction cs with
      | nil => intro T _; rfl
      | cons c cs ihc =>
        intro T h
        show (markss (c.marks T) cs).length = T.length
        rw [ihc _ (fun c hc => h c (List.mem_cons_of_mem _ hc)), h c (by simp)]
    show (markss _ cs).length = _
    rw [key cs _ ih, setR_len]

/-! ### part by part -/

theorem oks_mem {C : List Int} : ∀ {cs : List Tr}, oks C cs → ∀ i (h : i < cs.length), cs[i].ok C
  | t :: cs, ⟨a, b⟩, 0, _ => a
  | t :: cs, ⟨a, b⟩, i + 1, h => oks_mem b i (by simpa using h)
theorem markss_app : ∀ (a b : List Tr) (T : List Bool), markss T (a ++ b) = markss (markss T a) b
  | [], b, T => rfl
  | t :: a, b, T => markss_app a b (t.marks T)
theorem frees_app : ∀ (a b : List Tr) (T : List Bool), frees T (a ++ b) → frees T a ∧ frees (markss T a) b
  | [], b, T, h => ⟨trivial, h⟩
  | t :: a, b, T, ⟨h1, h2⟩ => by
    obtain ⟨h3, h4⟩ := frees_app a b _ h2
    exact ⟨⟨h1, h3⟩, h4⟩
theorem spotss_app : ∀ (a b : List Tr) (s : Nat), spotss s (a ++ b) = spotss s a ++ spotss (s + a.length) b
  | [], b, s => by simp [spotss]
  | t :: a, b, s => by
    simp only [List.cons_append, spotss, spotss_app a b (s + 1), List.length_cons, List.append_assoc]
    rw [show s + 1 + a.length = s + (a.length + 1) by omega]
theorem busys_app : ∀ (a b : List Tr), busys (a ++ b) = (busys a || busys b)
  | [], b => by simp [busys]
  | t :: a, b => by simp [busys, busys_app a b, Bool.or_assoc]
theorem contents_app : ∀ (a b : List Tr), contents (a ++ b) = contents a ++ contents b
  | [], b => by simp [contents]
  | t :: a, b => by simp [contents, contents_app a b]
theorem deeps_app : ∀ (a b : List Tr), deeps (a ++ b) = max (deeps a) (deeps b)
  | [], b => by simp [deeps]
  | t :: a, b => by simp [deeps, deeps_app a b, Nat.max_assoc]
theorem take_one (cs : List Tr) {i : Nat} (h : i < cs.length) : cs.take (i + 1) = cs.take i ++ [cs[i]] := by
  rw [List.take_add_one]; simp [h]
theorem frees_at {T : List Bool} {cs : List Tr} (h : frees T cs) {i : Nat} (hi : i < cs.length) : cs[i].free (markss T (cs.take i)) := by
  have e : cs = cs.take i ++ (cs[i] :: cs.drop (i + 1)) := by simp
  rw [e] at h
  exact (frees_app _ _ _ h).2.1

theorem ords_at {hi : Int} : ∀ {ks : List Int} {cs : List Tr} {lo : Int}, ords lo hi ks cs → ∀ i (h : i < cs.length), cs[i].ord (if i = 0 then lo else (ks[i - 1]?).getD 0) (if i < ks.length then (ks[i]?).getD 0 - 1 else hi)
  | [], [c], lo, h, 0, _ => h
  | k :: ks, c :: cs, lo, ⟨_, _, h3, h4⟩, 0, _ => by simpa using h3
  | k :: ks, c :: cs, lo, ⟨_, _, h3, h4⟩, i + 1, hi' => by
    have := ords_at h4 i (by simpa using hi')
    simp only [List.getElem_cons_succ, Nat.add_sub_cancel, List.length_cons]
    rw [if_neg (by omega)]
    by_cases h0 : i = 0
    · subst h0; simpa using this
    · rw [if_neg h0] at this
      have e : ((k :: ks)[i]?) = ks[i - 1]? := by
        obtain ⟨j, rfl⟩ : ∃ j, i = j + 1 := ⟨i - 1, by omega⟩
        simp
      rw [e]
      simpa using this
theorem ords_keys {hi : Int} : ∀ {ks : List Int} {cs : List Tr} {lo : Int}, ords lo hi ks cs → cs.length = ks.length + 1 ∧ ∀ i (h : i < ks.length), (if i = 0 then lo else (ks[i - 1]?).getD 0) < ks[i] ∧ ks[i] ≤ hi
  | [], [c], lo, h => ⟨rfl, fun i h => by simp at h⟩
  | k :: ks, c :: cs, lo, ⟨h1, h2, h3, h4⟩ => by
    obtain ⟨e, q⟩ := ords_keys h4
    refine ⟨by simp [e], fun i hi' => ?_⟩
    cases i with
    | zero => exact ⟨by simpa using h1, h2⟩
    | succ i =>
      have := q i (by simpa using hi')
      simp only [List.getElem_cons_succ, Nat.add_sub_cancel]
      rw [if_neg (by omega)]
      by_cases h0 : i = 0
      · subst h0; simpa using this
      · rw [if_neg h0] at this
        have e : ((k :: ks)[i]?) = ks[i - 1]? := by
          obtain ⟨j, rfl⟩ : ∃ j, i = j + 1 := ⟨i - 1, by omega⟩
          simp
        rw [e]; exact this
theorem deep_nil (a : Nat) (sz sh ch sm : Int) (ks : List Int) (cs : List Tr) : (Tr.inner a sz sh ch sm ks cs).deep = 1 + deeps cs := rfl
end
end Go.Proofs.Ytedldiimhbebdaa.Ai
