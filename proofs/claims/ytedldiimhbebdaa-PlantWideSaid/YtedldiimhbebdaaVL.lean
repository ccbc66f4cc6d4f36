/- The ideal tree of a list, in plain lists and numbers. -/
import Derived.Test.YtedldiimhbebdaaVJ
namespace Go.Proofs.Ytedldiimhbebdaa.Ai
open Go.Proofs.Ytedldiimhbebdaa
noncomputable section
set_option linter.unusedVariables false

mutual
/-- it is the list's ideal tree -/
def Tr.fits : Tr → List Pr → Prop
  | .empty _, l => l = []
  | .leaf _ k v, l => l = [(k, v)]
  | .inner _ sz sh ch sm ks cs, l => (2 ≤ l.length ∧ l.length ≤ 120) ∧ (sz = (l.length : Nat) ∧ sh = 0 ∧ ch = 0 ∧ sm = 0) ∧ ks = keysF l (degN l.length) ∧ cs.length = degN l.length ∧ fitss cs l 0
def fitss : List Tr → List Pr → Nat → Prop
  | [], _, _ => True
  | t :: cs, l, i => t.fits (partL l i) ∧ fitss cs l (i + 1)
end

mutual
/-- the cells that it has -/
def Tr.adrs : Tr → List Nat
  | .empty a => [a]
  | .leaf a _ _ => [a, a + 1]
  | .inner a _ _ _ _ _ cs => List.range' a (2 * cs.length + 4) ++ adrss cs
def adrss : List Tr → List Nat
  | [] => []
  | t :: cs => t.adrs ++ adrss cs
end

theorem fitss_at : ∀ {cs : List Tr} {l : List Pr} {i : Nat}, fitss cs l i → ∀ j (h : j < cs.length), cs[j].fits (partL l (i + j))
  | t :: cs, l, i, ⟨a, b⟩, 0, _ => a
  | t :: cs, l, i, ⟨a, b⟩, j + 1, h => by
    have := fitss_at b j (by simpa using h)
    rw [show i + (j + 1) = i + 1 + j by omega]
    simpa using this
theorem fitss_app : ∀ {a : List Tr} {t : Tr} {l : List Pr} {i : Nat}, fitss a l i → t.fits (partL l (i + a.length)) → fitss (a ++ [t]) l i
  | [], t, l, i, _, h => ⟨by simpa using h, trivial⟩
  | s :: a, t, l, i, ⟨h1, h2⟩, h => ⟨h1, fitss_app h2 (by rw [show i + 1 + a.length = i + (s :: a).length by simp; omega]; exact h)⟩
theorem oks_app {C : List Int} : ∀ {a : List Tr} {t : Tr}, oks C a → t.ok C → oks C (a ++ [t])
  | [], t, _, h => ⟨h, trivial⟩
  | s :: a, t, ⟨h1, h2⟩, h => ⟨h1, oks_app h2 h⟩
theorem adrss_app : ∀ (a b : List Tr), adrss (a ++ b) = adrss a ++ adrss b
  | [], b => by simp [adrss]
  | t :: a, b => by simp [adrss, adrss_app a b]
theorem adrss_mem {i : Nat} : ∀ {cs : List Tr}, i ∈ adrss cs → ∃ c ∈ cs, i ∈ c.adrs
  | [], h => by simp [adrss] at h
  | t :: cs, h => by
    simp only [adrss, List.mem_append] at h
    rcases h with h | h
    · exact ⟨t, by simp, h⟩
    · obtain ⟨c, h1, h2⟩ := adrss_mem h
      exact ⟨c, List.mem_cons_of_mem _ h1, h2⟩

theorem from_top {n : Nat} (h2 : 2 ≤ n) (h : n ≤ 120) : fromN n (degN n) = n := by
  have pn := partN h2 h
  have d2 := pn.deg2
  unfold fromN
  have h1 := Nat.div_add_mod n (degN n)
  have h3 : n % degN n < degN n := Nat.mod_lt _ (by omega)
  rw [Nat.min_eq_right (by omega), Nat.mul_comm]
  omega

theorem fits_content : ∀ (t : Tr) (l : List Pr), t.fits l → t.content = l := by
  intro t
  induction t using Tr.ind with
  | e a => exact fun l h => h.symm
  | l a k v => exact fun l h => h.symm
  | i a sz sh ch sm ks cs ih =>
    intro l h
    obtain ⟨⟨h2, h120⟩, _, _, hd, hf⟩ := h
    have pn := partN h2 h120
    show contents cs = l
    have key : ∀ i, i ≤ cs.length → contents (cs.take i) = l.take (fromN l.length i) := by
      intro i
      induction i with
      | zero => intro _; rw [pn.zero]; simp [contents]
      | succ i ihi =>
        intro hi
        have e := ih cs[i] (List.getElem_mem _) _ (fitss_at hf i (by omega))
        rw [Nat.zero_add] at e
        rw [take_one cs (by omega), contents_app, ihi (by omega), pn.next i (by omega), List.take_add]
        simp only [contents, List.append_nil, e, partL]
    have e := key cs.length (Nat.le_refl _)
    rw [List.take_length, hd, from_top h2 h120, List.take_length] at e
    exact e

theorem part_get {l : List Pr} {i : Nat} (h1 : 1 ≤ sizeN l.length i) : (partL l i)[0]? = l[fromN l.length i]? := by
  simp [partL, List.getElem?_take]
  omega

theorem fits_first : ∀ (t : Tr) (l : List Pr), t.fits l → l ≠ [] → t.first = ((l[0]?).getD (0, 0)).1 := by
  intro t
  induction t using Tr.ind with
  | e a => exact fun l h hne => absurd h hne
  | l a k v => intro l h _; cases h; rfl
  | i a sz sh ch sm ks cs ih =>
    intro l h _
    obtain ⟨⟨h2, h120⟩, _, _, hd, hf⟩ := h
    have pn := partN h2 h120
    have d2 := pn.deg2
    have h1 := pn.one 0 (by omega)
    have e := part_get (l := l) h1
    rw [pn.zero] at e
    have hne : partL l 0 ≠ [] := by
      intro e2
      rw [e2] at e
      simp at e
      rw [e] at h2; simp at h2
    cases cs with
    | nil => simp at hd; omega
    | cons c cs =>
      show c.first = _
      rw [ih c (by simp) _ hf.1 hne, e]

theorem keysF_get (l : List Pr) : ∀ (d i : Nat), i + 1 < d → (keysF l d)[i]? = some ((l[fromN l.length (i + 1)]?).getD (0, 0)).1
  | 0, i, h => by omega
  | 1, i, h => by omega
  | d + 2, i, h => by
    rw [keysF, if_neg (by omega)]
    have hl := keysF_len l (d + 1)
    by_cases c : i + 1 < d + 1
    · rw [List.getElem?_append_left (by omega)]
      exact keysF_get l (d + 1) i c
    · have e : i = d := by omega
      rw [List.getElem?_append_right (by omega), hl, e]
      simp

theorem fits_idl : ∀ (t : Tr) (l : List Pr), t.fits l → t.idl := by
  intro t
  induction t using Tr.ind with
  | e a => exact fun l h => trivial
  | l a k v => exact fun l h => trivial
  | i a sz sh ch sm ks cs ih =>
    intro l h
    have hc : contents cs = l := fits_content (.inner a sz sh ch sm ks cs) l h
    obtain ⟨⟨h2, h120⟩, ⟨e1, e2, e3, e4⟩, hk, hd, hf⟩ := h
    have pn := partN h2 h120
    refine ⟨?_, ?_⟩
    · rw [hc]
      refine ⟨⟨h2, h120⟩, hd, e1, e2, e3, e4, fun i hi => ?_, fun i hi hi2 => ?_⟩
      · have := fitss_at hf i hi
        rw [Nat.zero_add] at this
        rw [fits_content _ _ this, partL_len h2 h120 (by omega)]
      · have hf1 := fitss_at hf (i + 1) hi2
        rw [Nat.zero_add] at hf1
        have h1 := pn.one (i + 1) (by omega)
        have hp := partL_len h2 h120 (i := i + 1) (by omega)
        rw [fits_first _ _ hf1 (by intro e; rw [e] at hp; simp at hp; omega), part_get h1]
        have := keysF_get l (degN l.length) i (by omega)
        rw [← hk, List.getElem?_eq_getElem hi] at this
        exact Option.some.inj this
    · have key : ∀ (cs' : List Tr) (i : Nat), (∀ c ∈ cs', c ∈ cs) → fitss cs' l i → idls cs' := by
        intro cs'
        induction cs' with
        | nil => intro _ _ _; trivial
        | cons c cs' ihc =>
          intro i hm hh
          exact ⟨ih c (hm c (by simp)) _ hh.1, ihc (i + 1) (fun c hc => hm c (List.mem_cons_of_mem _ hc)) hh.2⟩
      exact key cs 0 (fun _ h => h) hf

theorem fits_busy : ∀ (t : Tr) (l : List Pr), t.fits l → t.busy = false := by
  intro t
  induction t using Tr.ind with
  | e a => exact fun l h => rfl
  | l a k v => exact fun l h => rfl
  | i a sz sh ch sm ks cs ih =>
    intro l h
    obtain ⟨⟨h2, h120⟩, ⟨e1, e2, e3, e4⟩, hk, hd, hf⟩ := h
    have key : ∀ (cs' : List Tr) (i : Nat), (∀ c ∈ cs', c ∈ cs) → fitss cs' l i → busys cs' = false := by
      intro cs'
      induction cs' with
      | nil => intro _ _ _; rfl
      | cons c cs' ihc =>
        intro i hm hh
        simp only [busys, ih c (hm c (by simp)) _ hh.1, ihc (i + 1) (fun c hc => hm c (List.mem_cons_of_mem _ hc)) hh.2, Bool.or_false]
    show ((decide (sh = 1) || decide (limN sz ≤ ch)) || busys cs) = false
    rw [key cs 0 (fun _ h => h) hf]
    subst e1 e2 e3
    have : ¬ limN (l.length : Nat) ≤ 0 := by
      unfold limN
      rw [if_pos (by omega)]
      omega
    simp [this]

theorem fits_spots : ∀ (t : Tr) (l : List Pr), t.fits l → l ≠ [] → t.spots.length + 2 ≤ 2 * l.length := by
  intro t
  induction t using Tr.ind with
  | e a => exact fun l h hne => absurd h hne
  | l a k v => intro l h _; cases h; simp [Tr.spots]
  | i a sz sh ch sm ks cs ih =>
    intro l h _
    obtain ⟨⟨h2, h120⟩, _, _, hd, hf⟩ := h
    have pn := partN h2 h120
    have d2 := pn.deg2
    show (spotss _ cs).length + 2 ≤ _
    have key : ∀ (s i : Nat), i ≤ cs.length → (spotss s (cs.take i)).length + i ≤ 2 * fromN l.length i := by
      intro s i
      induction i with
      | zero => intro _; simp [spotss]
      | succ i ihi =>
        intro hi
        have hfi := fitss_at hf i (by omega)
        rw [Nat.zero_add] at hfi
        have hp := partL_len h2 h120 (i := i) (by omega)
        have h1 := pn.one i (by omega)
        have e := ih cs[i] (List.getElem_mem _) _ hfi (by intro e; rw [e] at hp; simp at hp; omega)
        rw [hp] at e
        have := ihi (by omega)
        rw [take_one cs (by omega), spotss_app, pn.next i (by omega)]
        simp only [spotss, List.length_append, List.length_cons, List.length_nil]
        omega
    have e := key (a + 4 + cs.length) cs.length (Nat.le_refl _)
    rw [List.take_length, hd, from_top h2 h120] at e
    rw [hd]
    omega

theorem fits_few (t : Tr) (l : List Pr) (h : t.fits l) (hl : l.length ≤ 120) : t.spots.length < 90000 := by
  by_cases e : l = []
  · subst e
    cases t with
    | empty a => simp [Tr.spots]
    | leaf a k v => simp [Tr.spots]
    | inner a sz sh ch sm ks cs => have := h.1.1; simp at this
  · have := fits_spots t l h e
    omega

/-! ### in order -/

theorem asc_lt' {l : List Pr} (ha : Asc l) : ∀ (i j : Nat) (hi : i < j) (hj : j < l.length), l[i].1 < l[j].1 := by
  intro i j hi
  induction j with
  | zero => omega
  | succ j ih =>
    intro hj
    have h1 := ha j hj
    by_cases c : i = j
    · subst c; exact h1
    · have := ih (by omega) (by omega)
      omega

theorem part_mem {l : List Pr} {i : Nat} {p : Pr} (h : p ∈ partL l i) : ∃ x, ∃ hx : x < l.length, fromN l.length i ≤ x ∧ x < fromN l.length i + sizeN l.length i ∧ l[x] = p := by
  unfold partL at h
  obtain ⟨j, hj, e⟩ := List.getElem_of_mem h
  simp only [List.length_take, List.length_drop] at hj
  simp only [List.getElem_take, List.getElem_drop] at e
  exact ⟨fromN l.length i + j, by omega, by omega, by omega, e⟩

theorem part_asc {l : List Pr} (ha : Asc l) (i : Nat) : Asc (partL l i) := by
  intro j hj
  unfold partL at hj ⊢
  simp only [List.length_take, List.length_drop] at hj
  simp only [List.getElem_take, List.getElem_drop]
  exact ha _ (by omega)

theorem fits_ord : ∀ (t : Tr) (l : List Pr) (lo hi : Int), t.fits l → Asc l → (∀ p ∈ l, lo ≤ p.1 ∧ p.1 ≤ hi) → t.ord lo hi := by
  intro t
  induction t using Tr.ind with
  | e a => exact fun l lo hi h ha hb => trivial
  | l a k v => intro l lo hi h ha hb; cases h; exact hb (k, v) (by simp)
  | i a sz sh ch sm ks cs ih =>
    intro l lo hi h ha hb
    obtain ⟨⟨h2, h120⟩, _, hk, hd, hf⟩ := h
    have pn := partN h2 h120
    have d2 := pn.deg2
    have hkl : ks.length = cs.length - 1 := by rw [hk, keysF_len, hd]
    -- a key between two
    have hkey : ∀ j (hj : j < ks.length), ∃ hx : fromN l.length (j + 1) < l.length, ks[j] = (l[fromN l.length (j + 1)]).1 := by
      intro j hj
      have h1 := pn.one (j + 1) (by omega)
      have h3 := pn.top (j + 1) (by omega)
      have hx : fromN l.length (j + 1) < l.length := by omega
      refine ⟨hx, ?_⟩
      have := keysF_get l (degN l.length) j (by omega)
      rw [← hk, List.getElem?_eq_getElem hj, List.getElem?_eq_getElem hx] at this
      exact Option.some.inj this
    have mono : ∀ i j, i ≤ j → j ≤ cs.length → fromN l.length i ≤ fromN l.length j := by
      intro i j hij
      induction hij with
      | refl => intro _; exact Nat.le_refl _
      | @step m _ ihm =>
        intro hm
        have := ihm (by omega)
        have := pn.next m (by omega)
        show fromN l.length i ≤ fromN l.length (m + 1)
        omega
    have hget : ∀ x y (hx : x < l.length) (hy : y < l.length), x ≤ y → l[x].1 ≤ l[y].1 := by
      intro x y hx hy hxy
      by_cases e : x = y
      · subst e; omega
      · have := asc_lt' ha x y (by omega) hy; omega
    have key : ∀ m j, j + 1 + m = cs.length → ∀ lo', (∀ p ∈ l, p ∈ partL l j → lo' ≤ p.1) → (∀ (x : Nat) (hx : x < l.length), fromN l.length j ≤ x → lo' ≤ l[x].1) → ords lo' hi (ks.drop j) (cs.drop j) := by
      intro m
      induction m with
      | zero =>
        intro j hj lo' _ hlo
        rw [List.drop_eq_nil_of_le (by omega), List.drop_eq_getElem_cons (by omega), List.drop_eq_nil_of_le (by omega)]
        have hfj := fitss_at hf j (by omega)
        rw [Nat.zero_add] at hfj
        refine ih _ (List.getElem_mem _) _ _ _ hfj (part_asc ha j) (fun p hp => ?_)
        obtain ⟨x, hx, x1, x2, rfl⟩ := part_mem hp
        exact ⟨hlo x hx x1, (hb _ (List.getElem_mem _)).2⟩
      | succ m ihm =>
        intro j hj lo' _ hlo
        rw [List.drop_eq_getElem_cons (i := j) (l := ks) (by omega), List.drop_eq_getElem_cons (i := j) (l := cs) (by omega)]
        obtain ⟨hx, ek⟩ := hkey j (by omega)
        have hn := pn.next j (by omega)
        have h1 := pn.one j (by omega)
        have hfj := fitss_at hf j (by omega)
        rw [Nat.zero_add] at hfj
        refine ⟨?_, ?_, ?_, ?_⟩
        · rw [ek]
          have a1 := hlo (fromN l.length j) (by omega) (Nat.le_refl _)
          have a2 := asc_lt' ha (fromN l.length j) (fromN l.length (j + 1)) (by omega) hx
          omega
        · rw [ek]; exact (hb _ (List.getElem_mem _)).2
        · refine ih _ (List.getElem_mem _) _ _ _ hfj (part_asc ha j) (fun p hp => ?_)
          obtain ⟨x, hx', x1, x2, rfl⟩ := part_mem hp
          refine ⟨hlo x hx' x1, ?_⟩
          have := asc_lt' ha x (fromN l.length (j + 1)) (by omega) hx
          rw [ek]; omega
        · refine ihm (j + 1) (by omega) _ (fun p hp hpp => ?_) (fun x hx' hx2 => ?_)
          · obtain ⟨x, hx', x1, x2, rfl⟩ := part_mem hpp
            rw [ek]; exact hget _ _ hx hx' x1
          · rw [ek]; exact hget _ _ hx hx' hx2
    have := key (cs.length - 1) 0 (by omega) lo (fun p hp _ => (hb p hp).1) (fun x hx _ => (hb _ (List.getElem_mem _)).1)
    show ords lo hi ks cs
    simpa using this

/-! ### how deep -/

def maxN (f : Nat → Nat) : Nat → Nat
  | 0 => 0
  | i + 1 => max (maxN f i) (f i)
def depF : Nat → Nat → Nat
  | 0, _ => 0
  | f + 1, n => if n < 2 then 0 else 1 + maxN (fun i => depF f (sizeN n i)) (degN n)
def depN (n : Nat) : Nat := depF 8 n

theorem allDeps : ((List.range 121).all fun n => Nat.blt n 2 || Nat.beq (depN n) (1 + maxN (fun i => depN (sizeN n i)) (degN n))) = true := by kernel_rfl
theorem allDeps1 : (Nat.beq (depN 0) 0 && Nat.beq (depN 1) 0 && (List.range 121).all fun n => Nat.ble (depN n) 100) = true := by kernel_rfl

theorem dep_ok {n : Nat} (h2 : 2 ≤ n) (h : n ≤ 120) : depN n = 1 + maxN (fun i => depN (sizeN n i)) (degN n) := by
  have := List.all_eq_true.1 allDeps n (List.mem_range.2 (by omega))
  simp only [Bool.or_eq_true] at this
  rcases this with h0 | h0
  · have : Nat.ble (n + 1) 2 = true := h0
    have := Nat.le_of_ble_eq_true this; omega
  · exact Nat.eq_of_beq_eq_true h0

theorem fits_deep : ∀ (t : Tr) (l : List Pr), t.fits l → t.deep = depN l.length := by
  have h01 : depN 0 = 0 ∧ depN 1 = 0 := by
    have := allDeps1
    simp only [Bool.and_eq_true] at this
    exact ⟨Nat.eq_of_beq_eq_true this.1.1, Nat.eq_of_beq_eq_true this.1.2⟩
  intro t
  induction t using Tr.ind with
  | e a => intro l h; cases h; exact h01.1.symm
  | l a k v => intro l h; cases h; exact h01.2.symm
  | i a sz sh ch sm ks cs ih =>
    intro l h
    obtain ⟨⟨h2, h120⟩, _, hk, hd, hf⟩ := h
    show 1 + deeps cs = _
    rw [dep_ok h2 h120]
    have key : ∀ i, i ≤ cs.length → deeps (cs.take i) = maxN (fun i => depN (sizeN l.length i)) i := by
      intro i
      induction i with
      | zero => intro _; rfl
      | succ i ihi =>
        intro hi
        have hfi := fitss_at hf i (by omega)
        rw [Nat.zero_add] at hfi
        have e := ih cs[i] (List.getElem_mem _) _ hfi
        rw [partL_len h2 h120 (by omega)] at e
        rw [take_one cs (by omega), deeps_app, ihi (by omega)]
        simp [deeps, maxN, e]
    have e := key cs.length (Nat.le_refl _)
    rw [List.take_length] at e
    rw [e, hd]

theorem dep_less {n : Nat} (h : n ≤ 120) : depN n ≤ 100 := by
  have := allDeps1
  simp only [Bool.and_eq_true, List.all_eq_true, List.mem_range] at this
  exact Nat.le_of_ble_eq_true (this.2 n (by omega))

/-! ### cells of its own -/

theorem marks_get : ∀ (t : Tr) (T : List Bool) (i : Nat), i < T.length → (t.marks T)[i]? = some (decide (i ∈ t.adrs) || (T[i]?).getD false) := by
  intro t
  induction t using Tr.ind with
  | e a =>
    intro T i hi
    show (setR T a 1)[i]? = _
    rw [setR_get hi]
    by_cases h : i = a
    · subst h; simp [Tr.adrs]
    · rw [if_neg (by omega)]; simp [Tr.adrs, h]
  | l a k v =>
    intro T i hi
    show (setR T a 2)[i]? = _
    rw [setR_get hi]
    by_cases h : a ≤ i ∧ i < a + 2
    · rw [if_pos h]
      have : i = a ∨ i = a + 1 := by omega
      simp [Tr.adrs, this]
    · rw [if_neg h]
      have : ¬ (i = a ∨ i = a + 1) := by omega
      simp only [Tr.adrs, List.mem_cons, List.not_mem_nil, or_false, this, decide_false, Bool.false_or]
  | i a sz sh ch sm ks cs ih =>
    intro T i hi
    show (markss (setR T a (2 * cs.length + 4)) cs)[i]? = _
    have key : ∀ (cs' : List Tr) (T : List Bool), i < T.length → (∀ c ∈ cs', c ∈ cs) → (markss T cs')[i]? = some (decide (i ∈ adrss cs') || (T[i]?).getD false) := by
      intro cs'
      induction cs' with
      | nil => intro T hi _; simp [markss, adrss, hi]
      | cons c cs' ihc =>
        intro T hi hm
        show (markss (c.marks T) cs')[i]? = _
        rw [ihc (c.marks T) (by rw [markss_len]; exact hi) (fun x hx => hm x (List.mem_cons_of_mem _ hx)), ih c (hm c (by simp)) T i hi]
        simp only [adrss, List.mem_append, Option.getD_some]
        by_cases h1 : i ∈ c.adrs <;> by_cases h2 : i ∈ adrss cs' <;> simp [h1, h2]
    rw [key cs _ (by rw [setR_len]; exact hi) (fun _ h => h), setR_get hi]
    simp only [Tr.adrs, List.mem_append, List.mem_range'_1, Option.getD_some]
    by_cases h1 : a ≤ i ∧ i < a + (2 * cs.length + 4) <;> by_cases h2 : i ∈ adrss cs <;> simp [h1, h2]

theorem free_of : ∀ (t : Tr) (T : List Bool), (∀ i ∈ t.adrs, T[i]? = some false) → t.adrs.Nodup → t.free T := by
  intro t
  induction t using Tr.ind with
  | e a => intro T h _ i h1 h2; exact h i (by simp [Tr.adrs]; omega)
  | l a k v => intro T h _ i h1 h2; exact h i (by simp [Tr.adrs]; omega)
  | i a sz sh ch sm ks cs ih =>
    intro T h hn
    have hn' : (List.range' a (2 * cs.length + 4) ++ adrss cs).Nodup := hn
    have h' : ∀ i, i ∈ List.range' a (2 * cs.length + 4) ++ adrss cs → T[i]? = some false := h
    rw [List.nodup_append] at hn'
    obtain ⟨_, n2, n3⟩ := hn'
    refine ⟨fun i h1 h2 => h' i (by simp [List.mem_range'_1]; omega), ?_⟩
    have key : ∀ (cs' : List Tr) (T : List Bool), (∀ c ∈ cs', c ∈ cs) → (∀ i ∈ adrss cs', T[i]? = some false) → (adrss cs').Nodup → frees T cs' := by
      intro cs'
      induction cs' with
      | nil => intro T _ _ _; trivial
      | cons c cs' ihc =>
        intro T hm hT hnd
        have hnd' : (c.adrs ++ adrss cs').Nodup := hnd
        rw [List.nodup_append] at hnd'
        obtain ⟨a1, a2, a3⟩ := hnd'
        refine ⟨ih c (hm c (by simp)) T (fun i hi => hT i (by simp [adrss, hi])) a1, ihc (c.marks T) (fun x hx => hm x (List.mem_cons_of_mem _ hx)) (fun i hi => ?_) a2⟩
        have e := hT i (by simp [adrss, hi])
        have hlt : i < T.length := by
          rcases Nat.lt_or_ge i T.length with h | h
          · exact h
          · rw [List.getElem?_eq_none h] at e; cases e
        rw [marks_get c T i hlt, e]
        have : i ∉ c.adrs := fun hc => a3 i hc i hi rfl
        simp [this]
    refine key cs _ (fun _ h => h) (fun i hi => ?_) n2
    have e := h' i (by simp [hi])
    have hlt : i < T.length := by
      rcases Nat.lt_or_ge i T.length with h | h
      · exact h
      · rw [List.getElem?_eq_none h] at e; cases e
    rw [setR_get hlt, e]
    have : ¬ (a ≤ i ∧ i < a + (2 * cs.length + 4)) := fun hc => n3 i (by simp [List.mem_range'_1]; omega) i hi rfl
    simp [this]

/-! ### what plant lays -/

def tkids (tr : List Pr → Nat → Tr) (lay : List Pr → Nat → Int × List Int) (l : List Pr) (u : Nat) : Nat → List Tr
  | 0 => []
  | i + 1 => tkids tr lay l u i ++ [tr (partL l i) (u + (kidsF lay l u i).2.length)]

def treeF : Nat → List Pr → Nat → Tr
  | 0, _, u => .empty (u + 1)
  | f + 1, l, u => match l with
    | [] => .empty (u + 1)
    | [p] => .leaf (u + 1) p.1 p.2
    | l => .inner (u + (kidsF (layF f) l u (degN l.length)).2.length + 1) (l.length : Nat) 0 0 0 (keysF l (degN l.length)) (tkids (treeF f) (layF f) l u (degN l.length))

theorem treeF_two {f : Nat} {l : List Pr} {u : Nat} (h : 2 ≤ l.length) : treeF (f + 1) l u = .inner (u + (kidsF (layF f) l u (degN l.length)).2.length + 1) (l.length : Nat) 0 0 0 (keysF l (degN l.length)) (tkids (treeF f) (layF f) l u (degN l.length)) := by
  match l, h with
  | p :: q :: l, _ => rfl

/-- these cells lie there -/
def Holds (C : List Int) (u : Nat) (L : List Int) : Prop := u + L.length ≤ C.length ∧ ∀ (j : Nat) (v : Int), L[j]? = some v → at0 C (u + 1 + j) = v

theorem Holds.left {C : List Int} {u : Nat} {A B : List Int} (h : Holds C u (A ++ B)) : Holds C u A := by
  refine ⟨by have := h.1; simp at this; omega, fun j v hv => h.2 j v ?_⟩
  rw [List.getElem?_append_left (by
    rcases Nat.lt_or_ge j A.length with h | h
    · exact h
    · rw [List.getElem?_eq_none h] at hv; cases hv)]
  exact hv
theorem Holds.right {C : List Int} {u : Nat} {A B : List Int} (h : Holds C u (A ++ B)) : Holds C (u + A.length) B := by
  refine ⟨by have := h.1; simp at this; omega, fun j v hv => ?_⟩
  rw [show u + A.length + 1 + j = u + 1 + (A.length + j) by omega]
  refine h.2 _ v ?_
  rw [List.getElem?_append_right (by omega), show A.length + j - A.length = j by omega]
  exact hv

structure LaidAt (t : Tr) (w : Int) (L : List Int) (l : List Pr) (u : Nat) : Prop where
  word : t.word = w
  fits : t.fits l
  ok : ∀ C, Holds C u L → t.ok C
  adr : ∀ i ∈ t.adrs, u + 1 ≤ i ∧ i ≤ u + L.length
  nodup : t.adrs.Nodup

theorem treeF_spec : ∀ (f : Nat) (l : List Pr) (u : Nat), l.length < f → l.length ≤ 120 → LaidAt (treeF f l u) (layF f l u).1 (layF f l u).2 l u
  | 0, l, u, hf, _ => by omega
  | f + 1, l, u, hf, hl => by
    by_cases h2 : 2 ≤ l.length
    · have pn := partN h2 hl
      have d2 := pn.deg2
      have key : ∀ i, i ≤ degN l.length → (tkids (treeF f) (layF f) l u i).length = i ∧ (kidsF (layF f) l u i).1 = (tkids (treeF f) (layF f) l u i).map Tr.word ∧ fitss (tkids (treeF f) (layF f) l u i) l 0 ∧ (∀ C, Holds C u (kidsF (layF f) l u i).2 → oks C (tkids (treeF f) (layF f) l u i)) ∧
          (∀ j ∈ adrss (tkids (treeF f) (layF f) l u i), u + 1 ≤ j ∧ j ≤ u + (kidsF (layF f) l u i).2.length) ∧ (adrss (tkids (treeF f) (layF f) l u i)).Nodup := by
        intro i
        induction i with
        | zero => intro _; exact ⟨rfl, rfl, trivial, fun _ _ => trivial, by simp [tkids, adrss], by simp [tkids, adrss]⟩
        | succ i ih =>
          intro hi
          obtain ⟨k1, k2, k3, k4, k5, k6⟩ := ih (by omega)
          have hp := partL_len h2 hl (i := i) (by omega)
          have hless := pn.less i (by omega)
          have s := treeF_spec f (partL l i) (u + (kidsF (layF f) l u i).2.length) (by omega) (by omega)
          simp only [tkids, kidsF]
          refine ⟨by simp [k1], by simp [k2, s.word], fitss_app k3 (by rw [k1, Nat.zero_add]; exact s.fits), fun C hC => oks_app (k4 C hC.left) (s.ok C hC.right), ?_, ?_⟩
          · intro j hj
            rw [adrss_app] at hj
            simp only [List.mem_append, adrss, List.append_nil] at hj
            rw [List.length_append]
            rcases hj with hj | hj
            · have := k5 j hj; omega
            · have := s.adr j hj; omega
          · rw [adrss_app, List.nodup_append]
            refine ⟨k6, by simpa [adrss] using s.nodup, fun x hx y hy e => ?_⟩
            simp only [adrss, List.append_nil] at hy
            have h1 := k5 x hx
            have h2 := s.adr y hy
            omega
      obtain ⟨k1, k2, k3, k4, k5, k6⟩ := key (degN l.length) (Nat.le_refl _)
      rw [treeF_two h2, layF_two h2]
      generalize hks : kidsF (layF f) l u (degN l.length) = ks at k2 k4 k5
      generalize hcs : tkids (treeF f) (layF f) l u (degN l.length) = cs at k1 k2 k3 k4 k5 k6
      have kl := keysF_len l (degN l.length)
      have wl : ks.1.length = degN l.length := by rw [k2]; simp [k1]
      refine ⟨?_, ?_, ?_, ?_, ?_⟩
      · show (((u + ks.2.length + 1 : Nat) : Int)) * 8 + 3 = _
        simp
      · exact ⟨⟨h2, hl⟩, ⟨rfl, rfl, rfl, rfl⟩, rfl, k1, k3⟩
      · intro C hC
        have hr := hC.right
        have hrl := hr.1
        simp only [List.length_append, List.length_cons, List.length_nil, kl, wl] at hrl
        have ha : ∀ (j : Nat) (v : Int), ([(degN l.length : Int), (l.length : Int), 0, 0, 0] ++ keysF l (degN l.length) ++ ks.1)[j]? = some v → at0 C (u + ks.2.length + 1 + j) = v := hr.2
        refine ⟨⟨by omega, by omega, by omega, by omega⟩, ⟨?_, ?_, ?_, ?_, ?_⟩, .inl rfl, ⟨by omega, by omega⟩, ?_, ?_, k4 C hC.left⟩
        · rw [k1]; exact ha 0 _ rfl
        · exact ha 1 _ rfl
        · exact ha 2 _ rfl
        · exact ha 3 _ rfl
        · exact ha 4 _ rfl
        · intro i hi
          rw [show u + ks.2.length + 1 + 5 + i = u + ks.2.length + 1 + (5 + i) by omega]
          refine ha (5 + i) _ ?_
          rw [List.append_assoc, List.getElem?_append_right (by simp), List.getElem?_append_left (by simp; omega)]
          have e : 5 + i - [(degN l.length : Int), (l.length : Int), 0, 0, 0].length = i := by simp
          rw [e, List.getElem?_eq_getElem hi]
        · intro i hi
          rw [show u + ks.2.length + 1 + 4 + cs.length + i = u + ks.2.length + 1 + (4 + cs.length + i) by omega]
          refine ha (4 + cs.length + i) _ ?_
          have hln : ([(degN l.length : Int), (l.length : Int), 0, 0, 0] ++ keysF l (degN l.length)).length = 4 + cs.length := by simp [kl]; omega
          rw [List.getElem?_append_right (by omega), hln, k2, show 4 + cs.length + i - (4 + cs.length) = i by omega, List.getElem?_map, List.getElem?_eq_getElem hi]
          rfl
      · intro i hi
        simp only [Tr.adrs, List.mem_append, List.mem_range'_1, k1] at hi
        simp only [List.length_append, List.length_cons, List.length_nil, kl, wl]
        rcases hi with hi | hi
        · omega
        · have := k5 i hi; omega
      · show (List.range' _ _ ++ adrss cs).Nodup
        rw [List.nodup_append]
        refine ⟨List.nodup_range', k6, fun x hx y hy e => ?_⟩
        simp only [List.mem_range'_1] at hx
        have := k5 y hy
        omega
    · match l, h2 with
      | [], _ => exact ⟨rfl, rfl, fun C hC => ⟨by simp, by have := hC.1; simp [layF] at this; exact this⟩, by simp [treeF, Tr.adrs, layF], by simp [treeF, Tr.adrs]⟩
      | [p], _ => exact ⟨rfl, rfl, fun C hC => ⟨by simp, by have := hC.1; simp [layF] at this; omega, hC.2 0 _ rfl, hC.2 1 _ rfl⟩, by simp [treeF, Tr.adrs, layF], by simp [treeF, Tr.adrs]⟩
      | _ :: _ :: _, h2 => simp at h2
end
end Go.Proofs.Ytedldiimhbebdaa.Ai
